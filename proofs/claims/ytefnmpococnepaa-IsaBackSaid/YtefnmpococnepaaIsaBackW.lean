/-
  The walk of the law IsaBack: what was laid down is read as it was, instruction by instruction and as a whole.
-/
import Derived.Test.YtefnmpococnepaaIsaBytesW
import Derived.Test.YtefnmpococnepaaIsaCodesW
namespace Go.Proofs.Ytefnmpococnepaa
open Go.RowKit Mem

theorem size_len {i : Ia.Ins} (h : Ia.right i = 0) : Ia.size i = (Ia.bytesOf i).length := by rw [size_ok h, bytesOf_len]
theorem wrong_all : ∀ (l : List Ia.Ins), Ia.wrong l = 0 → ∀ i ∈ l, Ia.right i = 0
  | [], _, i, h => by cases h
  | j :: r, hw, i, h => by
    simp only [Ia.wrong] at hw
    by_cases h1 : Ia.right j ≠ 0
    · rw [if_pos h1] at hw; exact absurd hw h1
    · rw [if_neg h1] at hw
      rcases List.mem_cons.1 h with rfl | h
      · omega
      · exact wrong_all r hw i h
theorem wrong_take : ∀ (l : List Ia.Ins) (k : Nat), Ia.wrong (l.take k) ≠ 0 → Ia.wrong (l.take (k + 1)) ≠ 0 := by
  intro l k h
  by_cases hk : k < l.length
  · rw [take_snoc_ins l k hk]
    intro h2
    exact h ((fun (a b : List Ia.Ins) => show Ia.wrong (a ++ b) = 0 → Ia.wrong a = 0 from by
      induction a with
      | nil => intro _; rfl
      | cons i r ih =>
        simp only [List.cons_append, Ia.wrong]
        by_cases h1 : Ia.right i ≠ 0
        · rw [if_pos h1, if_pos h1]; exact id
        · rw [if_neg h1, if_neg h1]; exact ih) _ _ h2)
  · rw [List.take_of_length_le (by omega)]
    rw [List.take_of_length_le (by omega)] at h
    exact h
theorem decL_back (N : Nat) : ∀ (l : List Ia.Ins) (k : Nat), (∀ i ∈ l, Ia.right i = 0) → (∀ i ∈ l, InsOk i) → k + l.length ≤ 600 → Ia.decL N k (Ia.encode l) = (l, 0, 0)
  | [], k, _, _, _ => Ia.decL_nil N k
  | i :: r, k, hr, ho, hk => by
    have h1 := hr i (by simp)
    have h2 := ho i (by simp)
    have hb := Ia.readB_bytes h1 h2.2.1 h2.2.2 (Ia.encode r)
    have he : Ia.encode (i :: r) = Ia.bytesOf i ++ Ia.encode r := rfl
    have hne : Ia.bytesOf i ++ Ia.encode r ≠ [] := by simp [Ia.bytesOf]
    simp only [List.length_cons] at hk
    have hd : (Ia.bytesOf i ++ Ia.encode r).drop (Ia.size i) = Ia.encode r := by rw [size_len h1, List.drop_left]
    rw [he, Ia.decL_good N hne (by omega) (by rw [hb]), hb]
    dsimp only
    rw [hd, decL_back N r (k + 1) (fun i h => hr i (by simp [h])) (fun i h => ho i (by simp [h])) (by omega)]
    simp
theorem decode_back (l : List Ia.Ins) (hw : Ia.wrong l = 0) (ho : ∀ i ∈ l, InsOk i) (hk : l.length ≤ 600) : Ia.decode (Ia.encode l) = (l, 0, 0) :=
  decL_back _ l 0 (wrong_all l hw) ho (by omega)
theorem readAt_back (l : List Ia.Ins) (hw : Ia.wrong l = 0) (ho : ∀ i ∈ l, InsOk i) (k : Nat) (hk : k < l.length) :
    readAt (Ia.encode l) (((Ia.encode (l.take k)).length : Nat) : Int) = (l[k]'hk, (((Ia.encode (l.take (k + 1))).length : Nat) : Int), 0) ∧ (Ia.encode (l.take (k + 1))).length = (Ia.encode (l.take k)).length + Ia.size (l[k]'hk) ∧ (Ia.encode (l.take k)).length < (Ia.encode l).length := by
  have hr := wrong_all l hw _ (List.getElem_mem hk)
  have hok := ho _ (List.getElem_mem hk)
  have e : l = l.take k ++ (l[k]'hk :: l.drop (k + 1)) := by rw [← List.drop_eq_getElem_cons hk, List.take_append_drop]
  have he : Ia.encode l = Ia.encode (l.take k) ++ (Ia.bytesOf (l[k]'hk) ++ Ia.encode (l.drop (k + 1))) := (congrArg Ia.encode e).trans (by rw [encode_append]; rfl)
  have hs := encode_step l k hk
  have hl : (Ia.encode (l.take (k + 1))).length = (Ia.encode (l.take k)).length + Ia.size (l[k]'hk) := by rw [hs, List.length_append, size_len hr]
  have hlt : (Ia.encode (l.take k)).length < (Ia.encode l).length := by rw [he, List.length_append, List.length_append, bytesOf_len]; omega
  refine ⟨?_, hl, hlt⟩
  have hd : (Ia.encode l).drop (Ia.encode (l.take k)).length = Ia.bytesOf (l[k]'hk) ++ Ia.encode (l.drop (k + 1)) := by rw [he, List.drop_left]
  have hb := Ia.readB_bytes hr hok.2.1 hok.2.2 (Ia.encode (l.drop (k + 1)))
  rw [← hd] at hb
  rw [readAt_good hlt (by rw [hb]), hb, hl]
set_option maxHeartbeats 4000000 in
theorem isaBack_bad (w : World) (A : Option Addr) (c : Nat) (l : List Ia.Ins) (hw : InsArg w A c l) (hl : l.length ≤ 600) (hwr : Ia.wrong l ≠ 0) :
    Calls Try.prog 9 #[.slice A l.length c] w fun e w' => e = .returned (.bool true) ∧ Below w.heap.size w w' := by
  obtain ⟨hA, hok, hn⟩ := hw
  have HA := Lib.hid hA.at_
  have HE := Lib.hid (isaencode l A c w HA.out (by omega) (fun k h => (hok k h).2))
  have he : encOf l = ([], Ia.wrong l) := by unfold encOf; rw [if_neg (by omega), if_pos hwr]
  rw [he] at HE
  dsimp only at HE
  have heb : (Ia.wrong l == 0) = false := by rw [beq_eq_false_iff_ne]; exact hwr
  have HWR := Lib.hid hwr
  clear hA hok he hn hwr
  generalize hwl : Ia.wrong l = wl at *
  have HWL := Lib.hid hwl
  clear hwl
  go_enter Try.func9, Try.ntmps9
  go_wp2_with fail
  refine HE.out.mono ?_
  rintro e w1 ⟨v1, rfl, ho1, hb1⟩
  obtain ⟨A1, c1, rfl⟩ := own_slice ho1
  have HB1 := Lib.hid hb1
  clear ho1 hb1 HE
  go_wp2_with fail
  go_loopw [5, 6] (fun r i wr => ∃ (k : Nat) (b : Bool), k ≤ l.length ∧ i = .int .i64 k ∧ r = .bool b ∧ Hid (b = decide (Ia.wrong (l.take k) = 0)) ∧ Hid (Below w.heap.size w wr)) (fun _ i _ => l.length - (intOf i).toNat)
  case atStart => exact ⟨0, true, Nat.zero_le _, rfl, rfl, rfl, HB1⟩
  case round =>
    obtain ⟨k, b, hk, rfl, rfl, hb, hB⟩ := hrel
    by_cases hlt : k < l.length
    · obtain ⟨g, off, rfl, c0, c1⟩ := HA.out.below hB.out (Nat.le_refl _) k hlt
      rcases b with _ | _
      · have hb2 : Hid (false = decide (Ia.wrong (l.take (k + 1)) = 0)) := by
          have h1 : Ia.wrong (l.take k) ≠ 0 := fun h => by have := hb.out; rw [h] at this; simp at this
          have h2 := wrong_take l k h1
          exact (decide_eq_false h2).symm
        clear hb
        go_wp2_with fail
        go_roundw
        case rel => exact ⟨k + 1, false, by omega, by go_num, rfl, hb2, hB⟩
        case measure => simp [intOf]; omega
      · have h1 : Ia.wrong (l.take k) = 0 := of_decide_eq_true hb.out.symm
        have HRT := Lib.hid (isaright (l[k]'hlt))
        have hb2 : Hid ((Ia.right (l[k]'hlt) == 0) = decide (Ia.wrong (l.take (k + 1)) = 0)) := by
          have e : Ia.wrong (l.take (k + 1)) = Ia.right (l[k]'hlt) := by
            rw [take_snoc_ins l k hlt, wrong_append _ _ h1]
            simp only [Ia.wrong]
            split <;> omega
          unfold RowKit.Hid
          rw [e]
          rfl
        clear hb h1
        generalize l[k]'hlt = ins at *
        generalize Ia.right ins = rt at *
        go_wp2_with fail
        refine (HRT.out _).mono ?_
        rintro e w2 ⟨rfl, hb3⟩
        have HB3 := Lib.hid (hB.out.trans (hb3.mono hB.out.size))
        clear hb3
        go_wp2_with fail
        go_roundw
        case rel => exact ⟨k + 1, _, by omega, by go_num, rfl, hb2, HB3⟩
        case measure => simp [intOf]; omega
    · obtain rfl : k = l.length := by omega
      have hbf : b = false := by rw [hb.out, List.take_length, HWL.out]; exact decide_eq_false HWR.out
      subst hbf
      clear hb
      go_wp2_with fail
      refine (known_any _).mono ?_
      rintro e w3 ⟨rfl, hb3⟩
      go_wp2_with fail
      go_ret
      exact ⟨rfl, hB.out.trans (hb3.mono hB.out.size)⟩
set_option maxHeartbeats 8000000 in
theorem isaBack_ok (w : World) (A : Option Addr) (c : Nat) (l : List Ia.Ins) (hw : InsArg w A c l) (hl : l.length ≤ 600) (hwr : Ia.wrong l = 0) :
    Calls Try.prog 9 #[.slice A l.length c] w fun e w' => e = .returned (.bool true) ∧ Below w.heap.size w w' := by
  obtain ⟨hA, hok, hn⟩ := hw
  have HA := Lib.hid hA.at_
  have hom : ∀ i ∈ l, InsOk i := by
    intro i hi
    obtain ⟨k, hk, rfl⟩ := List.getElem_of_mem hi
    exact hok k hk
  have HE := Lib.hid (isaencode l A c w HA.out (by omega) (fun k h => (hok k h).2))
  have he : encOf l = (Ia.encode l, 0) := encOf_ok (by omega) hwr
  rw [he] at HE
  dsimp only at HE
  have HD := Lib.hid (fun A c W h => isadecode (Ia.encode l) A c W h (by have := encode_len l; omega))
  rw [decode_back l hwr hom hl] at HD
  dsimp only at HD
  have HRA := Lib.hid (readAt_back l hwr hom)
  have HRI := Lib.hid (fun i hi => wrong_all l hwr i hi)
  have HLN := Lib.hid (encode_len l)
  clear hA hok he hn hom
  go_enter Try.func9, Try.ntmps9
  go_wp2_with fail
  refine HE.out.mono ?_
  rintro e w1 ⟨v1, rfl, ho1, hb1⟩
  obtain ⟨A1, c1, rfl⟩ := own_slice ho1
  have HB1 := Lib.hid hb1
  have HE1 := Lib.hid (BytesAt.of_own ho1)
  clear ho1 hb1 HE
  go_wp2_with fail
  go_loopw [5, 6] (fun r i wr => ∃ k : Nat, k ≤ l.length ∧ i = .int .i64 k ∧ r = .bool true ∧ Hid (Below w1.heap.size w1 wr)) (fun _ i _ => l.length - (intOf i).toNat)
  case atStart => exact ⟨0, Nat.zero_le _, rfl, rfl, Below.refl _ _⟩
  case round =>
    obtain ⟨k, hk, rfl, rfl, hB⟩ := hrel
    by_cases hlt : k < l.length
    · obtain ⟨g, off, rfl, c0, c1⟩ := HA.out.below (HB1.out.trans (hB.out.mono HB1.out.size)) (Nat.le_refl _) k hlt
      have HRT := Lib.hid (isaright (l[k]'hlt))
      rw [HRI.out _ (List.getElem_mem hlt)] at HRT
      generalize l[k]'hlt = ins at *
      go_wp2_with fail
      refine (HRT.out _).mono ?_
      rintro e w2 ⟨rfl, hb3⟩
      have HB3 := Lib.hid (hB.out.trans (hb3.mono hB.out.size))
      clear hb3
      go_wp2_with fail
      go_roundw
      case rel => exact ⟨k + 1, by omega, by go_num, rfl, HB3⟩
      case measure => simp [intOf]; omega
    · obtain rfl : k = l.length := by omega
      have HE2 := Lib.hid (HE1.out.below hB.out (Nat.le_refl _))
      have HB2 := Lib.hid (HB1.out.trans (hB.out.mono HB1.out.size))
      clear hB
      go_wp2_with fail
      refine (HD.out A1 c1 _ HE2.out).mono ?_
      rintro e w3 ⟨vx, rfl, hox, hb3⟩
      obtain ⟨Ax, cx, rfl⟩ := own_slice hox
      have HE3 := Lib.hid (HE2.out.below hb3 (Nat.le_refl _))
      have HB3 := Lib.hid (HB2.out.trans (hb3.mono HB2.out.size))
      have HX3 := Lib.hid (InsAt.of_own hox)
      clear hox hb3
      go_wp2_with fail
      go_loopw [10, 11] (fun p i wq => ∃ k : Nat, k ≤ l.length ∧ i = .int .i64 k ∧ p = .int .i64 (((Ia.encode (l.take k)).length : Nat) : Int) ∧ Hid (Below w3.heap.size w3 wq)) (fun _ i _ => l.length - (intOf i).toNat)
      case atStart => exact ⟨0, Nat.zero_le _, rfl, rfl, Below.refl _ _⟩
      case round =>
        obtain ⟨k, hk, rfl, rfl, hB⟩ := hrel
        by_cases hlt : k < l.length
        · obtain ⟨g, off, rfl, c0, c1'⟩ := HA.out.below (HB3.out.trans (hB.out.mono HB3.out.size)) (Nat.le_refl _) k hlt
          obtain ⟨q1, q2, q3⟩ := HRA.out k hlt
          have HRD := Lib.hid (fun W h => isaread (Ia.encode l) A1 c1 (((Ia.encode (l.take k)).length : Nat) : Int) W h (by have := HLN.out; omega) (by omega) (by have := HLN.out; omega))
          rw [q1] at HRD
          unfold insAgg at HRD
          dsimp only at HRD
          have HSZ := Lib.hid (isasize (l[k]'hlt))
          unfold insAgg at HSZ
          have hln := HLN.out
          have hsm : (Ia.encode (l.take (k + 1))).length ≤ 3005 := by have := encode_len (l.take (k + 1)); have := List.length_take_le (k + 1) l; omega
          generalize hpn : (Ia.encode (l.take (k + 1))).length = pn at *
          have HPN := Lib.hid hpn
          clear hpn
          generalize (Ia.encode (l.take k)).length = pk at *
          have HQ : Hid (IntKind.i64.wrap ((pk : Int) + ((Ia.size (l[k]'hlt) : Nat) : Int)) = (pn : Int)) := by
            unfold RowKit.Hid
            rw [q2, IntKind.wrap_i64]
            omega
          have hgz : g < wr.heap.size := World.block_lt_of_cell? _ _ c0
          clear q1 q2 q3 hln HLN
          generalize hins : l[k]'hlt = ins at *
          clear hins
          have hr0 : (0 : Int) ≤ k := by omega
          have hr1 : (k : Int) < (l.length : Int) := by omega
          go_wp2_with fail
          refine (HRD.out _ (HE3.out.below hB.out (Nat.le_refl _))).mono ?_
          rintro e w5 ⟨rfl, hb5⟩
          have d0 := (hb5.cell (p := ⟨g, off + k * 2, none⟩) hgz).trans c0
          have d1 := (hb5.cell (p := ⟨g, off + k * 2 + 1, none⟩) hgz).trans c1'
          have hgz5 : g < w5.heap.size := Nat.lt_of_lt_of_le hgz hb5.size
          have HB5 := Lib.hid (hB.out.trans (hb5.mono hB.out.size))
          have hba : Below w5.heap.size w5 (w5.alloc (.cells #[.int .i64 ins.op, .int .i32 ins.n] 25)) := (Below.refl _ _).alloc (Nat.le_refl _) _
          have e0 := (below_new (w := w5) (cs := #[.int .i64 ins.op, .int .i32 ins.n]) (t := 25) (Below.refl _ _) 0).1
          have e1 := (below_new (w := w5) (cs := #[.int .i64 ins.op, .int .i32 ins.n]) (t := 25) (Below.refl _ _) 1).1
          have e2 := (hba.cell (p := ⟨g, off + k * 2, none⟩) hgz5).trans d0
          have e3 := (hba.cell (p := ⟨g, off + k * 2 + 1, none⟩) hgz5).trans d1
          clear hb5 hba c0 c1' d0 d1 HRD
          go_wp2_with fail
          go_region_held3 (fun w' => w'.cell? ⟨w5.heap.size, 0, none⟩ = some (.int .i64 ins.op) ∧ w'.cell? ⟨w5.heap.size, 1, none⟩ = some (.int .i32 ins.n) ∧ w'.cell? ⟨g, off + k * 2, none⟩ = some (.int .i64 ins.op) ∧ w'.cell? ⟨g, off + k * 2 + 1, none⟩ = some (.int .i32 ins.n)) (first | exact ⟨e0, e1, e2, e3⟩ | exact ⟨f0, f1, f2, f3⟩ | go_keep)
            (first
              | (go_at_call 23; refine (HSZ.out _).mono ?_; rintro e w6 ⟨rfl, hb6⟩; have f0 := (hb6.cell (p := ⟨w5.heap.size, 0, none⟩) (by simp)).trans e0; have f1 := (hb6.cell (p := ⟨w5.heap.size, 1, none⟩) (by simp)).trans e1; have f2 := (hb6.cell (p := ⟨g, off + k * 2, none⟩) (by simp; omega)).trans e2; have f3 := (hb6.cell (p := ⟨g, off + k * 2 + 1, none⟩) (by simp; omega)).trans e3; have HB6 := Lib.hid hb6; clear hb6; have hq := HQ.out))
          all_goals
            go_wp2_with fail
            go_roundw
            case rel => exact ⟨k + 1, by omega, by go_num, by rw [HPN.out], (below_drewN (HB5.out.alloc HB5.out.size _) 1).trans (HB6.out.mono (by have := HB5.out.size; simp; omega))⟩
            case measure => simp [intOf]; omega
        · obtain rfl : k = l.length := by omega
          rw [List.take_length]
          have HX4 := Lib.hid (HX3.out.below hB.out (Nat.le_refl _))
          have HB4 := Lib.hid (HB3.out.trans (hB.out.mono HB3.out.size))
          go_wp2_with fail
          refine (insame l Ax A cx c _ HX4.out (HA.out.below HB4.out (Nat.le_refl _)) (by omega)).mono ?_
          rintro e w6 ⟨rfl, n6, rfl⟩
          go_wp2_with fail
          refine (known_any _).mono ?_
          rintro e w7 ⟨rfl, hb7⟩
          go_wp2_with fail
          go_ret
          exact ⟨rfl, (below_drewN HB4.out n6).trans (hb7.mono HB4.out.size)⟩
theorem isaBack_walk (w : World) (A : Option Addr) (c : Nat) (l : List Ia.Ins) (hw : InsArg w A c l) :
    Calls Try.prog 9 #[.slice A l.length c] w fun e w' => e = .returned (.bool true) ∧ Below w.heap.size w w' := by
  by_cases hl : l.length ≤ 600
  · by_cases h : Ia.wrong l = 0
    · exact isaBack_ok w A c l hw hl h
    · exact isaBack_bad w A c l hw hl h
  · clear hw
    go_enter Try.func9, Try.ntmps9
    go_wp2_with fail
    refine (known_any _).mono ?_
    rintro e w1 ⟨rfl, hb1⟩
    go_wp2_with fail
    go_ret
    exact ⟨rfl, hb1⟩
end Go.Proofs.Ytefnmpococnepaa
