/-
  The functions Word, Mark and pass of the package lex.
-/
import Derived.Test.YtjgklpjmbogimaaLexB
namespace Go.Proofs.Ytjgklpjmbogimaa
open Go.RowKit

theorem word_miss {l : List UInt8} (h0 : (l == [110, 111, 100, 101]) = false) (h1 : (l == [114, 101, 116, 117, 114, 110, 115]) = false) (h2 : (l == [118, 97, 114]) = false) (h3 : (l == [108, 101, 116]) = false) (h4 : (l == [116, 101, 108]) = false) (h5 : (l == [105, 102]) = false) (h6 : (l == [116, 104, 101, 110]) = false) (h7 : (l == [101, 108, 115, 101]) = false) (h8 : (l == [102, 98, 121]) = false) (h9 : (l == [112, 114, 101]) = false) (h10 : (l == [119, 104, 101, 110]) = false) (h11 : (l == [117, 110, 108, 101, 115, 115]) = false) (h12 : (l == [109, 101, 114, 103, 101]) = false) (h13 : (l == [110, 111, 116]) = false) (h14 : (l == [116, 114, 117, 101]) = false) (h15 : (l == [102, 97, 108, 115, 101]) = false) (h16 : (l == [105, 110, 116]) = false) (h17 : (l == [98, 111, 111, 108]) = false) : Lx.isWord l = false := by
  unfold Lx.isWord Lx.words
  simp only [List.contains_cons, h0, h1, h2, h3, h4, h5, h6, h7, h8, h9, h10, h11, h12, h13, h14, h15, h16, h17, Bool.false_or]
  rfl
theorem word_hit {l c : List UInt8} (h : (l == c) = true) (hc : Lx.words.contains c = true) : Lx.isWord l = true := by
  rw [beq_iff_eq] at h
  rw [h]
  exact hc
theorem mark_miss {l : List UInt8} (h0 : (l == [60, 60]) = false) (h1 : (l == [62, 62]) = false) (h2 : (l == [60, 62]) = false) (h3 : (l == [60, 61]) = false) (h4 : (l == [62, 61]) = false) (h5 : (l == [45, 62]) = false) (h6 : (l == [40]) = false) (h7 : (l == [41]) = false) (h8 : (l == [58]) = false) (h9 : (l == [44]) = false) (h10 : (l == [59]) = false) (h11 : (l == [61]) = false) (h12 : (l == [60]) = false) (h13 : (l == [62]) = false) (h14 : (l == [43]) = false) (h15 : (l == [45]) = false) (h16 : (l == [42]) = false) (h17 : (l == [47]) = false) (h18 : (l == [37]) = false) (h19 : (l == [38]) = false) (h20 : (l == [124]) = false) (h21 : (l == [94]) = false) : Lx.isMark l = false := by
  unfold Lx.isMark Lx.marks
  simp only [List.contains_cons, h0, h1, h2, h3, h4, h5, h6, h7, h8, h9, h10, h11, h12, h13, h14, h15, h16, h17, h18, h19, h20, h21, Bool.false_or]
  rfl
theorem mark_hit {l c : List UInt8} (h : (l == c) = true) (hc : Lx.marks.contains c = true) : Lx.isMark l = true := by
  rw [beq_iff_eq] at h
  rw [h]
  exact hc

theorem both_false {l c : List UInt8} (h1 : (l == c) = true) (h2 : (l == c) = false) : False := by rw [h1] at h2; cases h2
set_option maxHeartbeats 1000000 in
theorem lexword (l : List UInt8) (w : World) :
    Calls Try.prog 9 #[.string ⟨l.toArray⟩] w fun e w' => e = .returned (.bool (Lx.isWord l)) ∧ w = w' := by
  go_enter Try.func9, Try.ntmps9
  go_wp2
  all_goals first | (exfalso; apply both_false <;> assumption) | skip
  all_goals (go_ret; refine ⟨ret_bool ?_, rfl⟩)
  all_goals first | (apply word_hit <;> first | assumption | decide) | (refine word_miss ?_ ?_ ?_ ?_ ?_ ?_ ?_ ?_ ?_ ?_ ?_ ?_ ?_ ?_ ?_ ?_ ?_ ?_ <;> assumption)
set_option maxHeartbeats 1000000 in
theorem lexmark (l : List UInt8) (w : World) :
    Calls Try.prog 11 #[.string ⟨l.toArray⟩] w fun e w' => e = .returned (.bool (Lx.isMark l)) ∧ w = w' := by
  go_enter Try.func11, Try.ntmps11
  go_wp2
  all_goals first | (exfalso; apply both_false <;> assumption) | skip
  all_goals (go_ret; refine ⟨ret_bool ?_, rfl⟩)
  all_goals first | (apply mark_hit <;> first | assumption | decide) | (refine mark_miss ?_ ?_ ?_ ?_ ?_ ?_ ?_ ?_ ?_ ?_ ?_ ?_ ?_ ?_ ?_ ?_ ?_ ?_ ?_ ?_ ?_ ?_ <;> assumption)
end Go.Proofs.Ytjgklpjmbogimaa
