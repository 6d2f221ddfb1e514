/-
  The walk of the law IsaDecodes: any bytes are read as a code.
-/
import Derived.Test.YtefnmpococnepaaIsaReadsW
namespace Go.Proofs.Ytefnmpococnepaa
open Go.RowKit Mem

theorem own_kept2 {w w' : World} {B size n : Nat} {e : TypeId} {vx vy : Value} {ys : List Value} (hy : w.ownsRow B e size vy n ys) (hx : ∀ k, vx.ownBlock = some k → k < B) (hg : w.grownBy w' vx.ownBlock) : w'.ownsRow B e size vy n ys := by
  refine hy.kept hg ?_
  rcases hb : vy.ownBlock with _ | k
  · exact .inl rfl
  · right
    intro h
    have h1 := (hy.lt k hb).1
    have h2 := hx k h.symm
    omega
theorem decF_len (N : Nat) : ∀ (f k : Nat) (l : Ia.Bs), k ≤ 600 → (Ia.decF N f k l).1.length + k ≤ 600
  | 0, k, _, h => by simp [Ia.decF]; exact h
  | f + 1, k, l, h => by
    unfold Ia.decF
    by_cases h1 : l = []
    · simp [h1]; exact h
    · rw [if_neg h1]
      by_cases h2 : k = 600
      · simp [h2]
      · rw [if_neg h2]
        simp only
        by_cases h3 : (Ia.readB l).2.2 ≠ 0
        · rw [if_pos h3]; simp; exact h
        · rw [if_neg h3]
          have ih := decF_len N f (k + 1) (l.drop (Ia.readB l).2.1) (by omega)
          by_cases h4 : (Ia.decF N f (k + 1) (l.drop (Ia.readB l).2.1)).2.1 ≠ 0
          · rw [if_pos h4]; simp; exact h
          · rw [if_neg h4]; show (Ia.decF N f (k + 1) (l.drop (Ia.readB l).2.1)).1.length + 1 + k ≤ 600; omega
theorem decode_len (bs : Ia.Bs) : (Ia.decode bs).1.length ≤ 600 := by
  have := decF_len bs.length (bs.length + 1) 0 bs (by omega)
  unfold Ia.decode
  omega
set_option maxHeartbeats 4000000 in
theorem isaDecodes_walk (w : World) (A : Option Addr) (c : Nat) (bs : List UInt8) (hw : BSrc w A c bs ∧ bs.length ≤ 140737488351232) :
    Calls Try.prog 4 #[.slice A bs.length c] w fun e w' => e = .returned (.bool true) ∧ Below w.heap.size w w' := by
  obtain ⟨hA, hn⟩ := hw
  have HA := Lib.hid hA
  clear hA
  by_cases hbig : 10000 < bs.length
  · go_enter Try.func4, Try.ntmps4
    go_wp2_with fail
    refine (known_any _).mono ?_
    rintro e w1 ⟨rfl, hb1⟩
    go_wp2_with fail
    go_ret
    exact ⟨rfl, hb1⟩
  · go_enter Try.func4, Try.ntmps4
    go_wp2_with fail
    refine (wlent bs A c _ HA.out hn).mono ?_
    rintro e w1 ⟨A1, c1, rfl, hl1, hb1⟩
    have HL1 := Lib.hid hl1
    have HB1 := Lib.hid hb1
    clear hl1 hb1
    have HD := Lib.hid (fun (A : Option Addr) (c : Nat) (W : World) (h : BytesAt W A bs) => isadecode bs A c W h hn)
    have HR := Lib.hid (fun (A : Option Addr) (c : Nat) (W : World) (h : BytesAt W A bs) => refdecode bs A c W h hn)
    have hlen := decode_len bs
    generalize Ia.decode bs = r at *
    obtain ⟨l, er, tt⟩ := r
    dsimp only at *
    go_wp2_with fail
    refine (HD.out A1 c1 _ HL1.out.at_).mono ?_
    rintro e w2 ⟨vx, rfl, hox, hb2⟩
    have HX := Lib.hid hox
    have HB2 := Lib.hid hb2
    have HB02 := Lib.hid (HB1.out.trans (hb2.mono HB1.out.size))
    clear hox hb2
    go_wp2_with fail
    refine (HR.out A c _ (HA.out.at_.below HB02.out (Nat.le_refl _))).mono ?_
    rintro e w3 ⟨vy, rfl, hoy, hb3⟩
    obtain ⟨Ax, cx, rfl⟩ := own_slice HX.out
    obtain ⟨Ay, cy, rfl⟩ := own_slice hoy
    have HY := Lib.hid hoy
    have HX3 := Lib.hid (own_below HX.out hb3)
    have HB3 := Lib.hid hb3
    have HB13 := Lib.hid (HB2.out.trans (hb3.mono HB2.out.size))
    clear hoy hb3
    go_wp2_with fail
    refine (insame l Ax Ay cx cy _ (InsAt.of_own HX3.out) (InsAt.of_own HY.out) (by omega)).mono ?_
    rintro e w4 ⟨rfl, n4, rfl⟩
    go_wp2_with fail
    refine (wkept bs A1 A c1 c w.heap.size _ ((HL1.out.below HB13.out (Nat.le_refl _)).below (below_drewN (Below.refl _ _) _) (Nat.le_refl _)) ?_).mono ?_
    · exact HA.out.at_.below (below_drewN (HB1.out.trans (HB13.out.mono HB1.out.size)) _) (Nat.le_refl _)
    rintro e w5 ⟨rfl, rfl⟩
    go_wp2_with fail
    refine (inspoil l (.slice Ax l.length cx) w1.heap.size _ (own_below HX3.out (below_drewN (Below.refl _ _) _)) (by omega)).mono ?_
    rintro e w6 ⟨⟨r6, rfl⟩, hg6⟩
    have HB16 := Lib.hid ((below_drewN HB13.out n4).trans (below_of_grown hg6 HB13.out.size (fun g hg => (HX3.out.lt g hg).1)))
    have HY6 := Lib.hid (own_kept2 (w := w3.drewN n4) (own_below HY.out (below_drewN (Below.refl _ _) _)) (fun k hk => (HX.out.lt k hk).2) hg6)
    clear hg6
    go_wp2_with fail
    refine (HD.out A1 c1 _ (HL1.out.at_.below HB16.out (Nat.le_refl _))).mono ?_
    rintro e w7 ⟨vz, rfl, hoz, hb7⟩
    obtain ⟨Az, cz, rfl⟩ := own_slice hoz
    have HZ := Lib.hid hoz
    have HY7 := Lib.hid (own_below HY6.out hb7)
    have HB7 := Lib.hid (HB1.out.trans ((HB16.out.trans (hb7.mono HB16.out.size)).mono HB1.out.size))
    clear hoz hb7
    go_wp2_with fail
    refine (insame l Az Ay cz cy _ (InsAt.of_own HZ.out) (InsAt.of_own HY7.out) (by omega)).mono ?_
    rintro e w8 ⟨rfl, n8, rfl⟩
    go_wp2_with fail
    refine (known_any _).mono ?_
    rintro e w9 ⟨rfl, hb9⟩
    go_wp2_with fail
    go_ret
    exact ⟨rfl, (below_drewN HB7.out n8).trans (hb9.mono HB7.out.size)⟩
end Go.Proofs.Ytefnmpococnepaa
