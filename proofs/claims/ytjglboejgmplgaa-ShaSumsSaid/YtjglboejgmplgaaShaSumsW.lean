/-
  The walk of the law ShaSums: the digest of any bytes is as the document says.
-/
import Derived.Test.YtjglboejgmplgaaRefSum
import Derived.Test.YtjglboejgmplgaaShaK
import Derived.Test.YtjglboejgmplgaaOpenR
namespace Go.Proofs.Ytjglboejgmplgaa
open Go.RowKit Mem

set_option maxRecDepth 100000 in
set_option maxHeartbeats 4000000 in
theorem shaSums_walk (w : World) (A : Option Addr) (c : Nat) (b : List UInt8) (hA : BArg w A c b) :
    Calls Try.prog 5 #[.slice A b.length c] w fun e w' => e = .returned (.bool true) ∧ Below w.heap.size w w' := by
  obtain ⟨hA1, hA2, hA3⟩ := hA
  have HA := Lib.hid hA1
  clear hA1
  by_cases h1 : b.length ≤ 16384
  · have HEQ := Lib.hid (fun W => eql32 (sumOf b) (sumOf b) (sumOf_len b) (sumOf_len b) W)
    have HEQ2 := Lib.hid (fun W => eq32 (sumOf b) (sumOf b) (sumOf_len b) (sumOf_len b) W)
    have HX := Lib.hid (fun (A : Option Addr) (c : Nat) (W : World) (h : BSrc W A c b) (h1 : b.length ≤ c) (h2 : c ≤ 9223372036854775807) => shasum shastep_ok b A c W h h1 (by omega) h2)
    have HY := Lib.hid (fun (A : Option Addr) (c : Nat) (W : World) (h : BSrc W A c b) => refsum b A c W h (by omega))
    generalize sumOf b = D at *
    go_enter Try.func5, Try.ntmps5
    go_wp2_with fail
    refine (wlent b A c w HA.out (by omega)).mono ?_
    rintro e w1 ⟨A1, c1, rfl, hL1, hb1⟩
    obtain ⟨g1, hg1, _, _, hc1, hm1, _⟩ := hL1.form
    have HSRC : Hid (BSrc w1 A1 c1 b) := by
      refine ⟨by rw [bcells_length, Nat.mul_one], (fun h => by rw [hg1] at h; cases h), fun ad had j u hu => ?_⟩
      have hj : j < b.length := by
        rcases Nat.lt_or_ge j b.length with h2 | h2
        · exact h2
        · rw [List.getElem?_eq_none (by rw [bcells_length]; exact h2)] at hu; cases hu
      obtain ⟨ad', he, hc⟩ := hL1.at_.src (by omega)
      rw [had] at he
      injection he with he
      subst he
      exact hc j u hu
    have HL1 := Lib.hid hL1
    have HB1 := Lib.hid hb1
    have HC1 : Hid (b.length ≤ c1 ∧ c1 ≤ 9223372036854775807) := by unfold maxLen at hm1; unfold RowKit.Hid; omega
    clear hL1 hb1 hg1 hc1 hm1
    go_wp2_with fail
    refine (HX.out A1 c1 _ HSRC.out HC1.out.1 HC1.out.2).mono ?_
    rintro e w2 ⟨rfl, hb2⟩
    have HB2 := Lib.hid (HB1.out.trans (hb2.mono HB1.out.size))
    have HL2 := Lib.hid (LentAt.below HL1.out hb2 (Nat.le_refl _))
    clear hb2
    go_wp2_with fail
    refine (HY.out A c _ (HA.out.below HB2.out (Nat.le_refl _))).mono ?_
    rintro e w3 ⟨rfl, hb3⟩
    have HB3 := Lib.hid (HB2.out.trans (hb3.mono HB2.out.size))
    have HL3 := Lib.hid (LentAt.below HL2.out hb3 (Nat.le_refl _))
    have heq : ∀ W, (binOp .eql 37 (.agg (bcells D).toArray) (.agg (bcells D).toArray)).run Try.prog W = .ok (.bool true) W := fun W => by rw [HEQ.out W]; simp
    have heq2 : ∀ W, (Op.equalIn 10000 37 (.agg (bcells D).toArray) (.agg (bcells D).toArray)).run Try.prog W = .ok true W := fun W => by rw [HEQ2.out W]; simp
    clear hb3
    go_wp2_with fail
    refine (wkept b A1 A c1 c _ _ HL3.out (BSrc.at_ (HA.out.below HB3.out (Nat.le_refl _)))).mono ?_
    rintro e w' ⟨rfl, rfl⟩
    go_wp2_with fail
    refine (known_any _).mono ?_
    rintro e w8 ⟨rfl, hb8⟩
    go_wp2_with fail
    go_ret
    exact ⟨rfl, HB3.out.trans (hb8.mono HB3.out.size)⟩
  · go_enter Try.func5, Try.ntmps5
    go_wp2_with fail
    refine (known_any _).mono ?_
    rintro e w8 ⟨rfl, hb8⟩
    go_wp2_with fail
    go_ret
    exact ⟨rfl, hb8⟩
end Go.Proofs.Ytjglboejgmplgaa
