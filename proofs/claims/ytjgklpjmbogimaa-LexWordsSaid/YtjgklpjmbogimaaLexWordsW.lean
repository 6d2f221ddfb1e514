/-
  The walk of the law LexWords: which texts are words of the language, names and marks.
-/
import Derived.Test.YtjgklpjmbogimaaLexK
namespace Go.Proofs.Ytjgklpjmbogimaa
open Go.RowKit
attribute [local go_sem] ex_take ex_drop ba_get

theorem word_head : ∀ m ∈ Lx.words, m ≠ [] ∧ Lx.isName m = false ∧ Lx.isMark m = false := by decide
theorem mark_head : ∀ m ∈ Lx.marks, Lx.isName m = false := by decide
theorem word_not {l : List UInt8} (h : Lx.isWord l = true) : Lx.isName l = false ∧ Lx.isMark l = false := (word_head l (List.contains_iff_mem.1 h)).2
theorem mark_not {l : List UInt8} (h : Lx.isMark l = true) : Lx.isName l = false := mark_head l (List.contains_iff_mem.1 h)
set_option maxHeartbeats 4000000 in
theorem lexWords_core (w : World) (l : List UInt8) (hl : l.length ≤ maxLen) (a b c : Bool) (ha : Lx.isWord l = a) (hb : Lx.isName l = b) (hc : Lx.isMark l = c) (h1 : (a && b) = false) (h2 : (a && c) = false) (h3 : (b && c) = false) :
    Calls Try.prog 3 #[.string ⟨l.toArray⟩] w fun e w' => e = .returned (.bool true) ∧ Below w.heap.size w w' := by
  have HL := Lib.hid hl
  have HA := Lib.hid ha
  have HB := Lib.hid hb
  have HC := Lib.hid hc
  clear hl ha hb hc
  by_cases hbig : 20000 < l.length
  · go_enter Try.func3, Try.ntmps3
    go_wp2_with fail
    refine (known_any _).mono ?_
    rintro e w1 ⟨rfl, hb1⟩
    go_wp2_with fail
    go_ret
    exact ⟨rfl, hb1⟩
  · cases a <;> cases b <;> cases c <;> first | (cases h1; done) | (cases h2; done) | (cases h3; done) | skip
    all_goals
      clear h1 h2 h3
      go_enter Try.func3, Try.ntmps3
      go_wp2_with fail
      refine (lexword l _).mono ?_
      rintro e w' ⟨rfl, rfl⟩
      rw [HA.out]
      go_wp2_with fail
      refine (lexname l HL.out _).mono ?_
      rintro e w1 ⟨rfl, hb1⟩
      rw [HB.out]
      go_wp2_with fail
      refine (lexmark l _).mono ?_
      rintro e w' ⟨rfl, rfl⟩
      rw [HC.out]
      go_wp2_with fail
      refine (refword l _).mono ?_
      rintro e w2 ⟨rfl, hb2⟩
      rw [HA.out]
      go_wp2_with fail
      refine (refname l HL.out _).mono ?_
      rintro e w3 ⟨rfl, hb3⟩
      rw [HB.out]
      go_wp2_with fail
      refine (refmark l _).mono ?_
      rintro e w4 ⟨rfl, hb4⟩
      rw [HC.out]
      go_wp2_with fail
      refine (known_any _).mono ?_
      rintro e w5 ⟨rfl, hb5⟩
      go_wp2_with fail
      go_ret
      have s1 := hb1.size
      have s2 := hb2.size
      have s3 := hb3.size
      have s4 := hb4.size
      exact ⟨rfl, hb1.trans ((hb2.mono (by omega)).trans ((hb3.mono (by omega)).trans ((hb4.mono (by omega)).trans (hb5.mono (by omega)))))⟩
theorem lexWords_walk (w : World) (l : List UInt8) (hl : l.length ≤ maxLen) :
    Calls Try.prog 3 #[.string ⟨l.toArray⟩] w fun e w' => e = .returned (.bool true) ∧ Below w.heap.size w w' := by
  refine lexWords_core w l hl _ _ _ rfl rfl rfl ?_ ?_ ?_
  · rcases h : Lx.isWord l with _ | _
    · rfl
    · rw [(word_not h).1]; rfl
  · rcases h : Lx.isWord l with _ | _
    · rfl
    · rw [(word_not h).2]; rfl
  · rcases h : Lx.isMark l with _ | _
    · simp
    · rw [mark_not h]; rfl
end Go.Proofs.Ytjgklpjmbogimaa
