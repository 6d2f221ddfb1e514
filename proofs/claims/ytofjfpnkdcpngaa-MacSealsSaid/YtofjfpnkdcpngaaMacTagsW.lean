/-
  The walk of the law MacTags: block and tag are as the document says, and what was lent is kept.
-/
import Derived.Test.YtofjfpnkdcpngaaMacG
import Derived.Test.YtofjfpnkdcpngaaMacKeysW
namespace Go.Proofs.Ytofjfpnkdcpngaa
open Go.RowKit Mem

theorem lent_src {w1 : World} {B : Nat} {A1 : Option Addr} {c1 : Nat} {b : List UInt8} (hL1 : LentAt w1 B A1 c1 b) : BSrc w1 A1 c1 b ∧ b.length ≤ c1 ∧ c1 ≤ 9223372036854775807 := by
  obtain ⟨g1, hg1, _, _, hc1, hm1, _⟩ := hL1.form
  refine ⟨⟨by rw [bcells_length, Nat.mul_one], (fun h => by rw [hg1] at h; cases h), fun ad had j u hu => ?_⟩, ?_⟩
  · have hj : j < b.length := by
      rcases Nat.lt_or_ge j b.length with h2 | h2
      · exact h2
      · rw [List.getElem?_eq_none (by rw [bcells_length]; exact h2)] at hu; cases hu
    obtain ⟨ad', he, hc⟩ := hL1.at_.src (by omega)
    rw [had] at he
    injection he with he
    subst he
    exact hc j u hu
  · unfold maxLen at hm1; omega
set_option maxRecDepth 100000 in
set_option maxHeartbeats 4000000 in
theorem macTags_walk (w : World) (A : Option Addr) (c : Nat) (k : List UInt8) (hA : BArg w A c k) (A' : Option Addr) (c' : Nat) (b : List UInt8) (hA' : BArg w A' c' b) :
    Calls Try.prog 3 #[.slice A k.length c, .slice A' b.length c'] w fun e w' => e = .returned (.bool true) ∧ Below w.heap.size w w' := by
  obtain ⟨hA1, hA2, hA3⟩ := hA
  obtain ⟨hM1, hM2, hM3⟩ := hA'
  by_cases h1 : k.length ≤ 16384
  · by_cases h2 : b.length ≤ 16384
    · have HA := Lib.hid hA1
      have HM := Lib.hid hM1
      have HBM := Lib.hid (fun (A1 : Option Addr) (c1 B : Nat) (W : World) (h : LentAt W B A1 c1 k) => macblock k A1 c1 W (lent_src h).1 (lent_src h).2.1 (by omega) (lent_src h).2.2)
      have HBR := Lib.hid (fun (W : World) (h : BSrc W A c k) => refblock k A c W h (by omega))
      have HTM := Lib.hid (fun (A1 A2 : Option Addr) (c1 c2 B B' : Nat) (W : World) (h : LentAt W B A1 c1 k) (h' : LentAt W B' A2 c2 b) => mactag k b A1 A2 c1 c2 W (lent_src h).1 (lent_src h).2.1 (by omega) (lent_src h).2.2 (lent_src h').1 (by omega))
      have HTR := Lib.hid (fun (W : World) (h : BSrc W A c k) (h' : BSrc W A' c' b) => reftag k b A A' c c' W h (by omega) h' (by omega))
      have HL1 := Lib.hid (blockOf_len k)
      have HL2 := Lib.hid (tagOf_len k b)
      clear hA1 hM1
      generalize blockOf k = blk at *
      generalize tagOf k b = T at *
      have heq : ∀ W, (binOp .eql 27 (.agg (bcells T).toArray) (.agg (bcells T).toArray)).run Try.prog W = .ok (.bool true) W := fun W => by rw [eql32 T T HL2.out HL2.out W]; simp
      have heq2 : ∀ W, (Op.equalIn 10000 27 (.agg (bcells T).toArray) (.agg (bcells T).toArray)).run Try.prog W = .ok true W := fun W => by rw [eq32 T T HL2.out HL2.out W]; simp
      have heq3 : ∀ W, (binOp .eql 25 (.agg (bcells blk).toArray) (.agg (bcells blk).toArray)).run Try.prog W = .ok (.bool true) W := fun W => by rw [eql64 blk blk HL1.out HL1.out W]; simp
      have heq4 : ∀ W, (Op.equalIn 10000 25 (.agg (bcells blk).toArray) (.agg (bcells blk).toArray)).run Try.prog W = .ok true W := fun W => by rw [eq64 blk blk HL1.out HL1.out W]; simp
      go_enter Try.func3, Try.ntmps3
      go_wp2_with fail
      refine (wlent k A c w HA.out (by omega)).mono ?_
      rintro e w1 ⟨A1, c1, rfl, hL1, hb1⟩
      have HK1 := Lib.hid hL1
      have HB1 := Lib.hid hb1
      clear hL1 hb1
      go_wp2_with fail
      refine (wlent b A' c' _ (HM.out.below HB1.out (Nat.le_refl _)) (by omega)).mono ?_
      rintro e w2 ⟨A2, c2, rfl, hL2, hb2⟩
      have HN2 := Lib.hid hL2
      have HK2 := Lib.hid (LentAt.below HK1.out hb2 (Nat.le_refl _))
      have HB2 := Lib.hid (HB1.out.trans (hb2.mono HB1.out.size))
      clear hL2 hb2
      go_wp2_with fail
      refine (HBM.out A1 c1 _ _ HK2.out).mono ?_
      rintro e w3 ⟨rfl, hb3⟩
      have HN3 := Lib.hid (LentAt.below HN2.out hb3 (Nat.le_refl _))
      have HK3 := Lib.hid (LentAt.below HK2.out hb3 (Nat.le_refl _))
      have HB3 := Lib.hid (HB2.out.trans (hb3.mono HB2.out.size))
      clear hb3
      go_wp2_with fail
      refine (HBR.out _ (HA.out.below HB3.out (Nat.le_refl _))).mono ?_
      rintro e w4 ⟨rfl, hb4⟩
      have HN4 := Lib.hid (LentAt.below HN3.out hb4 (Nat.le_refl _))
      have HK4 := Lib.hid (LentAt.below HK3.out hb4 (Nat.le_refl _))
      have HB4 := Lib.hid (HB3.out.trans (hb4.mono HB3.out.size))
      clear hb4
      go_wp2_with fail
      refine (HTM.out A1 A2 c1 c2 _ _ _ HK4.out HN4.out).mono ?_
      rintro e w5 ⟨rfl, hb5⟩
      have HN5 := Lib.hid (LentAt.below HN4.out hb5 (Nat.le_refl _))
      have HK5 := Lib.hid (LentAt.below HK4.out hb5 (Nat.le_refl _))
      have HB5 := Lib.hid (HB4.out.trans (hb5.mono HB4.out.size))
      clear hb5
      go_wp2_with fail
      refine (HTR.out _ (HA.out.below HB5.out (Nat.le_refl _)) (HM.out.below HB5.out (Nat.le_refl _))).mono ?_
      rintro e w6 ⟨rfl, hb6⟩
      have HN6 := Lib.hid (LentAt.below HN5.out hb6 (Nat.le_refl _))
      have HK6 := Lib.hid (LentAt.below HK5.out hb6 (Nat.le_refl _))
      have HB6 := Lib.hid (HB5.out.trans (hb6.mono HB5.out.size))
      clear hb6
      go_wp2_with fail
      refine (wkept k A1 A c1 c _ _ HK6.out (BSrc.at_ (HA.out.below HB6.out (Nat.le_refl _)))).mono ?_
      rintro e w' ⟨rfl, rfl⟩
      go_wp2_with fail
      refine (wkept b A2 A' c2 c' _ _ HN6.out (BSrc.at_ (HM.out.below HB6.out (Nat.le_refl _)))).mono ?_
      rintro e w' ⟨rfl, rfl⟩
      go_wp2_with fail
      refine (known_any _).mono ?_
      rintro e w8 ⟨rfl, hb8⟩
      go_wp2_with fail
      go_ret
      exact ⟨rfl, HB6.out.trans (hb8.mono HB6.out.size)⟩
    · go_enter Try.func3, Try.ntmps3
      go_wp2_with fail
      refine (known_any _).mono ?_
      rintro e w8 ⟨rfl, hb8⟩
      go_wp2_with fail
      go_ret
      exact ⟨rfl, hb8⟩
  · go_enter Try.func3, Try.ntmps3
    go_wp2_with fail
    refine (known_any _).mono ?_
    rintro e w8 ⟨rfl, hb8⟩
    go_wp2_with fail
    go_ret
    exact ⟨rfl, hb8⟩
end Go.Proofs.Ytofjfpnkdcpngaa
