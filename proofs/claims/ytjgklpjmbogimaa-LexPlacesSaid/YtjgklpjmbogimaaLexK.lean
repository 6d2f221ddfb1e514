/-
  What must come of fixed calls of the package lex.
-/
import Derived.Test.YtjgklpjmbogimaaLexJ
namespace Go.Proofs.Ytjgklpjmbogimaa
open Go.RowKit
attribute [local go_sem] ex_take ex_drop ba_get

def toks1 : List Lx.Tok := [⟨1, [120], 0, 0⟩, ⟨4, [60, 61], 0, 1⟩, ⟨2, [49, 48], 10, 3⟩]
theorem scan_one : Lx.scan [120, 60, 61, 49, 48, 32, 45, 45, 32, 121] = (toks1, 0, 0) := by kernel_rfl
theorem scan_two : Lx.scan [108, 101, 116, 95, 32, 48, 55] = ([], 16, 5) := by kernel_rfl
set_option maxHeartbeats 4000000 in
theorem known_any (w : World) : Calls Try.prog 8 #[] w fun e w' => e = .returned (.bool true) ∧ Below w.heap.size w w' := by
  go_enter Try.func8, Try.ntmps8
  go_wp2_with fail
  refine (lexscan [120, 60, 61, 49, 48, 32, 45, 45, 32, 121] (by decide) _).mono ?_
  rintro e w1 ⟨v, rfl, hown, hb1⟩
  rw [scan_one] at hown ⊢
  obtain ⟨A, c, rfl⟩ := own_slice hown
  have HT := Lib.hid (TokAt.of_own hown)
  have HB1 := Lib.hid hb1
  clear hown hb1
  go_wp2_with fail
  refine (lexscan [108, 101, 116, 95, 32, 48, 55] (by decide) _).mono ?_
  rintro e w2 ⟨v2, rfl, hown, hb2⟩
  rw [scan_two] at hown ⊢
  have HB2 := Lib.hid (HB1.out.trans (hb2.mono HB1.out.size))
  have HT2 := Lib.hid (HT.out.below hb2 (.inl (Nat.le_refl _)))
  clear hown hb2
  obtain ⟨b, off, rfl, _, c1, _, _⟩ := HT2.out 1 (by decide)
  obtain ⟨b', off', hbo, _, _, d2, d3⟩ := HT2.out 2 (by decide)
  simp only [Option.some.injEq, Addr.mk.injEq, and_true] at hbo
  obtain ⟨rfl, rfl⟩ := hbo
  simp [toks1] at c1 d2 d3
  go_wp2_with fail
  refine (lexword _ _).mono ?_
  rintro e w' ⟨rfl, rfl⟩
  rw [show Lx.isWord [110, 111, 100, 101] = true by decide]
  go_wp2_with fail
  refine (lexname [110, 111, 100, 101] (by decide) _).mono ?_
  rintro e w3 ⟨rfl, hb3⟩
  rw [show Lx.isName [110, 111, 100, 101] = false by decide]
  go_wp2_with fail
  refine (lexmark _ _).mono ?_
  rintro e w' ⟨rfl, rfl⟩
  rw [show Lx.isMark [45, 62] = true by decide]
  go_wp2_with fail
  go_ret
  exact ⟨rfl, HB2.out.trans (hb3.mono HB2.out.size)⟩
end Go.Proofs.Ytjgklpjmbogimaa
