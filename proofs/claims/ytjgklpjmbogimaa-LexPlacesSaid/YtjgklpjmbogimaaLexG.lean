/-
  The function next of the package lex at marks, and whole.
-/
import Derived.Test.YtjgklpjmbogimaaLexF
import Derived.LoopN
namespace Go.Proofs.Ytjgklpjmbogimaa
open Go.RowKit
attribute [local go_sem] ex_take ex_drop ba_get

set_option maxHeartbeats 2000000 in
theorem next_mark2 (l : List UInt8) (h0 : 0 < l.length) (h1 : Lx.bp Lx.letter (l[0]'h0) = false) (h2 : Lx.bp Lx.digit (l[0]'h0) = false) (hg : 2 ≤ l.length) (hm : Lx.isMark (l.take 2) = true) (hl : l.length ≤ maxLen) (w : World) :
    Calls Try.prog 26 #[.string ⟨l.toArray⟩] w fun e w' => e = .returned (.tuple #[tokAgg ⟨4, l.take 2, 0, 0⟩, .int .i64 0]) ∧ Below w.heap.size w w' := by
  unfold tokAgg
  unfold maxLen at hl
  have H1 : Hid (Lx.letter ((l[0]'h0).toNat : Int) = false) := h1
  have H2 : Hid (Lx.digit ((l[0]'h0).toNat : Int) = false) := h2
  clear h1 h2
  have hcb : ((l[0]'h0).toNat : Int) ≤ 255 := by have := (l[0]'h0).toNat_lt; omega
  have HM := Lib.hid hm
  clear hm
  go_enter Try.func26, Try.ntmps26
  go_wp2_with fail
  refine (lexletter_any _ _).mono ?_
  rintro e w' ⟨rfl, rfl⟩
  rw [H1.out]
  go_wp2_with fail
  refine (lexdigit_any _ _).mono ?_
  rintro e w' ⟨rfl, rfl⟩
  rw [H2.out]
  go_wp2_with fail
  refine wp_loop_rounds 3 ?_
  rw [rounds_succ]
  go_wp2_with fail
  refine (lexmark _ _).mono ?_
  rintro e w' ⟨rfl, rfl⟩
  rw [HM.out]
  go_wp2_with fail
  refine ret_tok rfl rfl rfl rfl ?_ ?_ ?_ ?_ ⟨rfl, ?_⟩
  · simp [go_sem]
  · simp [go_sem]
  · simp [go_sem]
  · simp [go_sem]
  · exact (((Below.refl _ _).alloc (Nat.le_refl _) _).alloc (by simp) _)
set_option maxHeartbeats 2000000 in
theorem next_mark1 (l : List UInt8) (h0 : 0 < l.length) (h1 : Lx.bp Lx.letter (l[0]'h0) = false) (h2 : Lx.bp Lx.digit (l[0]'h0) = false) (hg : 2 ≤ l.length) (hm : Lx.isMark (l.take 2) = false) (hn : Lx.isMark (l.take 1) = true) (hl : l.length ≤ maxLen) (w : World) :
    Calls Try.prog 26 #[.string ⟨l.toArray⟩] w fun e w' => e = .returned (.tuple #[tokAgg ⟨4, l.take 1, 0, 0⟩, .int .i64 0]) ∧ Below w.heap.size w w' := by
  unfold tokAgg
  unfold maxLen at hl
  have H1 : Hid (Lx.letter ((l[0]'h0).toNat : Int) = false) := h1
  have H2 : Hid (Lx.digit ((l[0]'h0).toNat : Int) = false) := h2
  clear h1 h2
  have hcb : ((l[0]'h0).toNat : Int) ≤ 255 := by have := (l[0]'h0).toNat_lt; omega
  have HM := Lib.hid hm
  clear hm
  have HN := Lib.hid hn
  clear hn
  go_enter Try.func26, Try.ntmps26
  go_wp2_with fail
  refine (lexletter_any _ _).mono ?_
  rintro e w' ⟨rfl, rfl⟩
  rw [H1.out]
  go_wp2_with fail
  refine (lexdigit_any _ _).mono ?_
  rintro e w' ⟨rfl, rfl⟩
  rw [H2.out]
  go_wp2_with fail
  refine wp_loop_rounds 3 ?_
  rw [rounds_succ]
  go_wp2_with fail
  refine (lexmark _ _).mono ?_
  rintro e w' ⟨rfl, rfl⟩
  rw [HM.out]
  go_wp2_with fail
  rw [rounds_succ]
  go_wp2_with fail
  refine (lexmark _ _).mono ?_
  rintro e w' ⟨rfl, rfl⟩
  rw [HN.out]
  go_wp2_with fail
  refine ret_tok rfl rfl rfl rfl ?_ ?_ ?_ ?_ ⟨rfl, ?_⟩
  · simp [go_sem]
  · simp [go_sem]
  · simp [go_sem]
  · simp [go_sem]
  · exact (((Below.refl _ _).alloc (Nat.le_refl _) _).alloc (by simp) _)
set_option maxHeartbeats 2000000 in
theorem next_none (l : List UInt8) (h0 : 0 < l.length) (h1 : Lx.bp Lx.letter (l[0]'h0) = false) (h2 : Lx.bp Lx.digit (l[0]'h0) = false) (hg : 2 ≤ l.length) (hm : Lx.isMark (l.take 2) = false) (hn : Lx.isMark (l.take 1) = false) (hl : l.length ≤ maxLen) (w : World) :
    Calls Try.prog 26 #[.string ⟨l.toArray⟩] w fun e w' => e = .returned (.tuple #[tokAgg ⟨0, [], 0, 0⟩, .int .i64 15]) ∧ Below w.heap.size w w' := by
  unfold tokAgg
  unfold maxLen at hl
  have H1 : Hid (Lx.letter ((l[0]'h0).toNat : Int) = false) := h1
  have H2 : Hid (Lx.digit ((l[0]'h0).toNat : Int) = false) := h2
  clear h1 h2
  have hcb : ((l[0]'h0).toNat : Int) ≤ 255 := by have := (l[0]'h0).toNat_lt; omega
  have HM := Lib.hid hm
  clear hm
  have HN := Lib.hid hn
  clear hn
  go_enter Try.func26, Try.ntmps26
  go_wp2_with fail
  refine (lexletter_any _ _).mono ?_
  rintro e w' ⟨rfl, rfl⟩
  rw [H1.out]
  go_wp2_with fail
  refine (lexdigit_any _ _).mono ?_
  rintro e w' ⟨rfl, rfl⟩
  rw [H2.out]
  go_wp2_with fail
  refine wp_loop_rounds 3 ?_
  rw [rounds_succ]
  go_wp2_with fail
  refine (lexmark _ _).mono ?_
  rintro e w' ⟨rfl, rfl⟩
  rw [HM.out]
  go_wp2_with fail
  rw [rounds_succ]
  go_wp2_with fail
  refine (lexmark _ _).mono ?_
  rintro e w' ⟨rfl, rfl⟩
  rw [HN.out]
  go_wp2_with fail
  rw [rounds_succ]
  go_wp2_with fail
  refine ret_tok rfl rfl rfl rfl ?_ ?_ ?_ ?_ ⟨rfl, ?_⟩
  · simp [go_sem]
  · simp [go_sem]
  · simp [go_sem]
  · simp [go_sem]
  · exact (((Below.refl _ _).alloc (Nat.le_refl _) _).alloc (by simp) _)
set_option maxHeartbeats 2000000 in
theorem next_mark1s (l : List UInt8) (h0 : 0 < l.length) (h1 : Lx.bp Lx.letter (l[0]'h0) = false) (h2 : Lx.bp Lx.digit (l[0]'h0) = false) (hg : ¬ 2 ≤ l.length) (hn : Lx.isMark (l.take 1) = true) (hl : l.length ≤ maxLen) (w : World) :
    Calls Try.prog 26 #[.string ⟨l.toArray⟩] w fun e w' => e = .returned (.tuple #[tokAgg ⟨4, l.take 1, 0, 0⟩, .int .i64 0]) ∧ Below w.heap.size w w' := by
  unfold tokAgg
  unfold maxLen at hl
  have H1 : Hid (Lx.letter ((l[0]'h0).toNat : Int) = false) := h1
  have H2 : Hid (Lx.digit ((l[0]'h0).toNat : Int) = false) := h2
  clear h1 h2
  have hcb : ((l[0]'h0).toNat : Int) ≤ 255 := by have := (l[0]'h0).toNat_lt; omega
  have HN := Lib.hid hn
  clear hn
  go_enter Try.func26, Try.ntmps26
  go_wp2_with fail
  refine (lexletter_any _ _).mono ?_
  rintro e w' ⟨rfl, rfl⟩
  rw [H1.out]
  go_wp2_with fail
  refine (lexdigit_any _ _).mono ?_
  rintro e w' ⟨rfl, rfl⟩
  rw [H2.out]
  go_wp2_with fail
  refine wp_loop_rounds 3 ?_
  rw [rounds_succ]
  go_wp2_with fail
  rw [rounds_succ]
  go_wp2_with fail
  refine (lexmark _ _).mono ?_
  rintro e w' ⟨rfl, rfl⟩
  rw [HN.out]
  go_wp2_with fail
  refine ret_tok rfl rfl rfl rfl ?_ ?_ ?_ ?_ ⟨rfl, ?_⟩
  · simp [go_sem]
  · simp [go_sem]
  · simp [go_sem]
  · simp [go_sem]
  · exact (((Below.refl _ _).alloc (Nat.le_refl _) _).alloc (by simp) _)
set_option maxHeartbeats 2000000 in
theorem next_nones (l : List UInt8) (h0 : 0 < l.length) (h1 : Lx.bp Lx.letter (l[0]'h0) = false) (h2 : Lx.bp Lx.digit (l[0]'h0) = false) (hg : ¬ 2 ≤ l.length) (hn : Lx.isMark (l.take 1) = false) (hl : l.length ≤ maxLen) (w : World) :
    Calls Try.prog 26 #[.string ⟨l.toArray⟩] w fun e w' => e = .returned (.tuple #[tokAgg ⟨0, [], 0, 0⟩, .int .i64 15]) ∧ Below w.heap.size w w' := by
  unfold tokAgg
  unfold maxLen at hl
  have H1 : Hid (Lx.letter ((l[0]'h0).toNat : Int) = false) := h1
  have H2 : Hid (Lx.digit ((l[0]'h0).toNat : Int) = false) := h2
  clear h1 h2
  have hcb : ((l[0]'h0).toNat : Int) ≤ 255 := by have := (l[0]'h0).toNat_lt; omega
  have HN := Lib.hid hn
  clear hn
  go_enter Try.func26, Try.ntmps26
  go_wp2_with fail
  refine (lexletter_any _ _).mono ?_
  rintro e w' ⟨rfl, rfl⟩
  rw [H1.out]
  go_wp2_with fail
  refine (lexdigit_any _ _).mono ?_
  rintro e w' ⟨rfl, rfl⟩
  rw [H2.out]
  go_wp2_with fail
  refine wp_loop_rounds 3 ?_
  rw [rounds_succ]
  go_wp2_with fail
  rw [rounds_succ]
  go_wp2_with fail
  refine (lexmark _ _).mono ?_
  rintro e w' ⟨rfl, rfl⟩
  rw [HN.out]
  go_wp2_with fail
  rw [rounds_succ]
  go_wp2_with fail
  refine ret_tok rfl rfl rfl rfl ?_ ?_ ?_ ?_ ⟨rfl, ?_⟩
  · simp [go_sem]
  · simp [go_sem]
  · simp [go_sem]
  · simp [go_sem]
  · exact (((Below.refl _ _).alloc (Nat.le_refl _) _).alloc (by simp) _)
/-- the token with which a text begins, whatever it is -/
theorem lexnext (l : List UInt8) (hl0 : l ≠ []) (hl : l.length ≤ maxLen) (w : World) :
    Calls Try.prog 26 #[.string ⟨l.toArray⟩] w fun e w' => e = .returned (.tuple #[tokAgg (Lx.next l).1, .int .i64 (Lx.next l).2]) ∧ Below w.heap.size w w' := by
  have h0 : 0 < l.length := List.length_pos_iff.2 hl0
  have hh := headD_at h0
  rcases h1 : Lx.bp Lx.letter (l[0]'h0) with _ | _
  · rcases h2 : Lx.bp Lx.digit (l[0]'h0) with _ | _
    · rw [Lx.next_mark (by rw [hh]; exact h1) (by rw [hh]; exact h2)]
      by_cases hg : 2 ≤ l.length
      · rcases hm : Lx.isMark (l.take 2) with _ | _
        · rw [if_neg (by simp)]
          rcases hn : Lx.isMark (l.take 1) with _ | _
          · exact next_none l h0 h1 h2 hg hm hn hl w
          · exact next_mark1 l h0 h1 h2 hg hm hn hl w
        · rw [if_pos ⟨hg, rfl⟩]
          exact next_mark2 l h0 h1 h2 hg hm hl w
      · rw [if_neg (fun e => hg e.1)]
        rcases hn : Lx.isMark (l.take 1) with _ | _
        · exact next_nones l h0 h1 h2 hg hn hl w
        · exact next_mark1s l h0 h1 h2 hg hn hl w
    · rw [Lx.next_digit (by rw [hh]; exact h1) (by rw [hh]; exact h2)]
      rcases hr : Lx.readOk (Lx.hd Lx.digit l) with _ | _
      · exact next_bad l h0 h1 h2 hr hl w
      · exact next_num l h0 h1 h2 hr hl w
  · rw [Lx.next_letter (by rw [hh]; exact h1)]
    rcases hw : Lx.isWord (Lx.hd Lx.inner l) with _ | _
    · rw [if_neg (by simp)]
      by_cases hg : 16 < (Lx.hd Lx.inner l).length
      · rw [if_pos hg]; exact next_big l h0 h1 hw hg hl w
      · rw [if_neg hg]; exact next_name l h0 h1 hw hg hl w
    · exact next_word l h0 h1 hw hl w
end Go.Proofs.Ytjgklpjmbogimaa
