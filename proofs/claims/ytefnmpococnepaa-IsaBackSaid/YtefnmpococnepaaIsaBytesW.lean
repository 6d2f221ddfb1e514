/-
  The walk of the law IsaBytes: any instruction is right, and laid down in so many bytes, as the document says, or refused.
-/
import Derived.Test.YtefnmpococnepaaIsaDecodesW
namespace Go.Proofs.Ytefnmpococnepaa
open Go.RowKit Mem

def bts (i : Ia.Ins) : List UInt8 := if Ia.right i = 0 then Ia.bytesOf i else []
theorem bytesOf_len (i : Ia.Ins) : (Ia.bytesOf i).length = 1 + Ia.form i.op := by simp only [Ia.bytesOf, List.length_cons, Ia.le_length]; omega
theorem isabytes (i : Ia.Ins) (w : World) (h1 : -2147483648 ≤ i.n) (h2 : i.n ≤ 2147483647) :
    Calls Try.prog 19 #[insAgg i] w fun e w' => ∃ v, e = .returned (.tuple #[v, .int .i64 (Ia.right i)]) ∧ w'.ownsRow w.heap.size 5 1 v (bts i).length (bcells (bts i)) ∧ Below w.heap.size w w' := by
  by_cases h : Ia.right i = 0
  · refine (isabytes_ok i w h h1 h2).mono ?_
    rintro e w' ⟨v, rfl, ho, hb⟩
    unfold bts; rw [if_pos h, h, bytesOf_len]
    exact ⟨v, rfl, ho, hb⟩
  · refine (isabytes_bad i w h).mono ?_
    rintro e w' ⟨rfl, hb⟩
    unfold bts; rw [if_neg h]
    exact ⟨_, rfl, World.ownsRow_nil _ _ _ _, hb⟩
theorem refbytes (i : Ia.Ins) (w : World) (h1 : -2147483648 ≤ i.n) (h2 : i.n ≤ 2147483647) :
    Calls Try.prog 20 #[insAgg i] w fun e w' => ∃ v, e = .returned (.tuple #[v, .int .i64 (Ia.right i)]) ∧ w'.ownsRow w.heap.size 5 1 v (bts i).length (bcells (bts i)) ∧ Below w.heap.size w w' := by
  by_cases h : Ia.right i = 0
  · refine (refbytes_ok i w h h1 h2).mono ?_
    rintro e w' ⟨v, rfl, ho, hb⟩
    unfold bts; rw [if_pos h, h, bytesOf_len]
    exact ⟨v, rfl, ho, hb⟩
  · refine (refbytes_bad i w h).mono ?_
    rintro e w' ⟨rfl, hb⟩
    unfold bts; rw [if_neg h]
    exact ⟨_, rfl, World.ownsRow_nil _ _ _ _, hb⟩
theorem bts_len (i : Ia.Ins) : (bts i).length ≤ 5 := by
  unfold bts
  by_cases h : Ia.right i = 0
  · rw [if_pos h, bytesOf_len]; have := Ia.form_le i.op; omega
  · rw [if_neg h]; simp
set_option maxHeartbeats 4000000 in
theorem isaBytes_walk (w : World) (i : Ia.Ins) (hi : InsOk i) :
    Calls Try.prog 5 #[insAgg i] w fun e w' => e = .returned (.bool true) ∧ Below w.heap.size w w' := by
  have HX := Lib.hid (fun W => isabytes i W hi.2.1 hi.2.2)
  have HY := Lib.hid (fun W => refbytes i W hi.2.1 hi.2.2)
  have HR1 := Lib.hid (fun W => isaright i W)
  have HR2 := Lib.hid (fun W => refright i W)
  have HS1 := Lib.hid (fun W => isasize i W)
  have HS2 := Lib.hid (fun W => refsize i W hi.2.1 hi.2.2)
  have hbl := bts_len i
  clear hi
  unfold insAgg at *
  generalize bts i = bs at *
  generalize Ia.right i = rt at *
  generalize Ia.size i = sz at *
  go_enter Try.func5, Try.ntmps5
  go_wp2_with fail
  refine (HX.out _).mono ?_
  rintro e w1 ⟨vx, rfl, hox, hb1⟩
  obtain ⟨hs1, hbu⟩ := below_up hb1
  have k0 := (below_new hb1 0).1
  have k1 := (below_new hb1 1).1
  have HB1 := Lib.hid hbu
  have HOX := Lib.hid hox
  obtain ⟨Ax, cx, rfl⟩ := own_slice hox
  clear hb1 hbu hox
  simp at k0 k1
  go_wp2_with fail
  refine (HY.out _).mono ?_
  rintro e w2 ⟨vy, rfl, hoy, hb2⟩
  obtain ⟨Ay, cy, rfl⟩ := own_slice hoy
  have HX2 := Lib.hid (own_below HOX.out hb2)
  have HY2 := Lib.hid hoy
  have HB12 := Lib.hid hb2
  have HB2 := Lib.hid (HB1.out.trans (hb2.mono HB1.out.size))
  have m0 := (hb2.cell (p := ⟨w.heap.size, 0, none⟩) hs1).trans k0
  have m1 := (hb2.cell (p := ⟨w.heap.size, 1, none⟩) hs1).trans k1
  have cvx := fun W (h : Below w2.heap.size w2 W) => conv_bytes W Ax cx bs ((BytesAt.of_own HX2.out).below h (Nat.le_refl _))
  have cvy := fun W (h : Below w2.heap.size w2 W) => conv_bytes W Ay cy bs ((BytesAt.of_own HY2.out).below h (Nat.le_refl _))
  have CX := Lib.hid cvx
  have CY := Lib.hid cvy
  have hs2 : w.heap.size < w2.heap.size := Nat.lt_of_lt_of_le hs1 hb2.size
  have cx0 := cvx w2 (Below.refl _ _)
  have cy0 := cvy w2 (Below.refl _ _)
  clear cvx cvy hoy hb2 k0 k1
  go_wp2_with fail
  go_region_held3 (fun w' => w'.cell? ⟨w.heap.size, 0, none⟩ = some (.int .i64 i.op) ∧ w'.cell? ⟨w.heap.size, 1, none⟩ = some (.int .i32 i.n) ∧ (convert 22 9 (.slice Ax bs.length cx)).run Try.prog w' = .ok (.string ⟨bs.toArray⟩) w' ∧ (convert 22 9 (.slice Ay bs.length cy)).run Try.prog w' = .ok (.string ⟨bs.toArray⟩) w') (first | exact ⟨m0, m1, cx0, cy0⟩ | exact ⟨m0, m1, CX.out _ (below_drewN (Below.refl _ _) 1), CY.out _ (below_drewN (Below.refl _ _) 1)⟩ | exact ⟨ma0, ma1, ma2, ma3⟩ | exact ⟨mb0, mb1, mb2, mb3⟩ | exact ⟨mc0, mc1, mc2, mc3⟩ | exact ⟨md0, md1, md2, md3⟩ | go_keep)
    (first
      | (go_at_call 21; refine (HR1.out _).mono ?_; rintro e wa ⟨rfl, hba⟩; have HBa : Hid (Below w2.heap.size w2 wa) := (below_drewN (Below.refl _ _) 1).trans hba; have ma0 := (HBa.out.cell (p := ⟨w.heap.size, 0, none⟩) hs2).trans m0; have ma1 := (HBa.out.cell (p := ⟨w.heap.size, 1, none⟩) hs2).trans m1; have ma2 := CX.out _ HBa.out; have ma3 := CY.out _ HBa.out; clear hba)
      | (go_at_call 22; refine (HR2.out _).mono ?_; rintro e wb ⟨rfl, hbb⟩; have HBb : Hid (Below w2.heap.size w2 wb) := HBa.out.trans (hbb.mono HBa.out.size); have mb0 := (HBb.out.cell (p := ⟨w.heap.size, 0, none⟩) hs2).trans m0; have mb1 := (HBb.out.cell (p := ⟨w.heap.size, 1, none⟩) hs2).trans m1; have mb2 := CX.out _ HBb.out; have mb3 := CY.out _ HBb.out; clear hbb)
      | (go_at_call 23; refine (HS1.out _).mono ?_; rintro e wc ⟨rfl, hbc⟩; have HBc : Hid (Below w2.heap.size w2 wc) := HBb.out.trans (hbc.mono HBb.out.size); have mc0 := (HBc.out.cell (p := ⟨w.heap.size, 0, none⟩) hs2).trans m0; have mc1 := (HBc.out.cell (p := ⟨w.heap.size, 1, none⟩) hs2).trans m1; have mc2 := CX.out _ HBc.out; have mc3 := CY.out _ HBc.out; clear hbc)
      | (go_at_call 24; refine (HS2.out _).mono ?_; rintro e wd ⟨rfl, hbd⟩; have HBd : Hid (Below w2.heap.size w2 wd) := HBc.out.trans (hbd.mono HBc.out.size); have md0 := (HBd.out.cell (p := ⟨w.heap.size, 0, none⟩) hs2).trans m0; have md1 := (HBd.out.cell (p := ⟨w.heap.size, 1, none⟩) hs2).trans m1; have md2 := CX.out _ HBd.out; have md3 := CY.out _ HBd.out; clear hbd))
  all_goals
    clear ma0 ma1 ma2 ma3 mb0 mb1 mb2 mb3 mc0 mc1 mc2 mc3 md2 md3 cx0 cy0 m0 m1
    have HXd := Lib.hid (own_below HX2.out HBd.out)
    have HYd := Lib.hid (own_below HY2.out HBd.out)
    go_wp2_with fail
    refine (wspoil bs (.slice Ax bs.length cx) _ wd HXd.out (by have := HBd.out.size; simp; omega) (by omega)).mono ?_
    rintro e w6 ⟨⟨r6, rfl⟩, hg6⟩
    have hbl6 : Below (w.heap.size + 1) wd w6 := below_of_grown hg6 (by have := HBd.out.size; omega) (fun g hg => by have := (HXd.out.lt g hg).1; simpa using this)
    have m0 := (hbl6.cell (p := ⟨w.heap.size, 0, none⟩) (Nat.lt_succ_self _)).trans md0
    have m1 := (hbl6.cell (p := ⟨w.heap.size, 1, none⟩) (Nat.lt_succ_self _)).trans md1
    have HY6 := Lib.hid (own_kept2 HYd.out (fun k hk => (HOX.out.lt k hk).2) hg6)
    have HB6 := Lib.hid (HB2.out.trans ((HBd.out.mono HB2.out.size).trans (hbl6.mono (Nat.le_succ _))))
    clear hbl6 hg6 md0 md1
    go_wp2_with fail
    refine (HX.out _).mono ?_
    rintro e w7 ⟨vz, rfl, hoz, hb7⟩
    obtain ⟨Az, cz, rfl⟩ := own_slice hoz
    have HB7 := Lib.hid (HB6.out.trans (hb7.mono HB6.out.size))
    have cvz := conv_bytes w7 Az cz bs (BytesAt.of_own hoz)
    have cvy := conv_bytes w7 Ay cy bs (BytesAt.of_own (own_below HY6.out hb7))
    clear hoz hb7
    go_wp2_with fail
    clear cvz cvy
    refine (known_any _).mono ?_
    rintro e w8 ⟨rfl, hb8⟩
    go_wp2_with fail
    go_ret
    exact ⟨rfl, HB7.out.trans (hb8.mono HB7.out.size)⟩
end Go.Proofs.Ytefnmpococnepaa
