/-
  The small functions of the package isa and of its reference: how many bytes a number has, how great it may be.
-/
import Derived.Test.YtlfbpcjeohbfkaaRows
import Derived.Test.YtlfbpcjeohbfkaaIsaPlain
import Derived.WalkKit
import Derived.WalkSpells
import Derived.WalkLawsBesides
import Derived.Handy
import Derived.Lib.Hide
import Derived.LoopTactic
import Derived.BigQuiet
import Derived.Deep.QuietTactic
namespace Go.Proofs.Ytlfbpcjeohbfkaa
open Go.RowKit

theorem ret_int {k : IntKind} {a b : Int} (h : b = a) : Ending.returned (.int k a) = .returned (.int k b) := by rw [h]
theorem isaform (op : Int) (w : World) :
    Calls Try.prog 26 #[.int .i64 op] w fun e w' => e = .returned (.int .i64 (Ia.form op)) ∧ w = w' := by
  unfold Ia.form
  by_cases h1 : op = 1
  · subst h1
    go_enter Try.func26, Try.ntmps26
    go_wp2_with fail
    go_ret
    exact ⟨rfl, rfl⟩
  rw [if_neg h1]
  by_cases h2 : op = 10
  · subst h2
    go_enter Try.func26, Try.ntmps26
    go_wp2_with fail
    go_ret
    exact ⟨rfl, rfl⟩
  by_cases h3 : op = 11
  · subst h3
    go_enter Try.func26, Try.ntmps26
    go_wp2_with fail
    go_ret
    exact ⟨rfl, rfl⟩
  rw [if_neg (by omega)]
  have b1 : (op == 1) = false := by simpa using h1
  have b2 : (op == 10) = false := by simpa using h2
  have b3 : (op == 11) = false := by simpa using h3
  by_cases h4 : 1 < op
  · by_cases h5 : op < 10
    · rw [if_pos ⟨h4, h5⟩]
      clear h1 h2 h3
      go_enter Try.func26, Try.ntmps26
      go_wp2_with fail
      go_ret
      exact ⟨rfl, rfl⟩
    · rw [if_neg (by omega)]
      clear h1 h2 h3
      go_enter Try.func26, Try.ntmps26
      go_wp2_with fail
      go_ret
      exact ⟨rfl, rfl⟩
  · rw [if_neg (by omega)]
    clear h1 h2 h3
    go_enter Try.func26, Try.ntmps26
    go_wp2_with fail
    go_ret
    exact ⟨rfl, rfl⟩
theorem isamost (op : Int) (w : World) :
    Calls Try.prog 27 #[.int .i64 op] w fun e w' => e = .returned (.int .i32 (Ia.most op)) ∧ w = w' := by
  unfold Ia.most
  by_cases h1 : op = 8
  · subst h1
    go_enter Try.func27, Try.ntmps27
    go_wp2_with fail
    go_ret
    exact ⟨rfl, rfl⟩
  by_cases h2 : op = 9
  · subst h2
    go_enter Try.func27, Try.ntmps27
    go_wp2_with fail
    go_ret
    exact ⟨rfl, rfl⟩
  by_cases h3 : op = 10
  · subst h3
    go_enter Try.func27, Try.ntmps27
    go_wp2_with fail
    go_ret
    exact ⟨rfl, rfl⟩
  by_cases h4 : op = 11
  · subst h4
    go_enter Try.func27, Try.ntmps27
    go_wp2_with fail
    go_ret
    exact ⟨rfl, rfl⟩
  rw [if_neg h1, if_neg h2, if_neg (by omega)]
  have b1 : (op == 8) = false := by simpa using h1
  have b2 : (op == 9) = false := by simpa using h2
  have b3 : (op == 10) = false := by simpa using h3
  have b4 : (op == 11) = false := by simpa using h4
  clear h1 h2 h3 h4
  go_enter Try.func27, Try.ntmps27
  go_wp2_with fail
  go_ret
  exact ⟨rfl, rfl⟩
set_option maxHeartbeats 1000000 in
theorem refwidth (op : Int) (w : World) :
    Calls Try.prog 25 #[.int .i64 op] w fun e w' => e = .returned (.int .i64 (Ia.form op)) ∧ w = w' := by
  by_cases h : 1 ≤ op ∧ op ≤ 11
  · rcases (show op = 1 ∨ op = 2 ∨ op = 3 ∨ op = 4 ∨ op = 5 ∨ op = 6 ∨ op = 7 ∨ op = 8 ∨ op = 9 ∨ op = 10 ∨ op = 11 by omega) with rfl | rfl | rfl | rfl | rfl | rfl | rfl | rfl | rfl | rfl | rfl
    all_goals
      go_enter Try.func25, Try.ntmps25
      go_wp2_with fail
      go_ret
      exact ⟨rfl, rfl⟩
  · have hz : Ia.form op = 0 := by unfold Ia.form; rw [if_neg (by omega), if_neg (by omega), if_neg (by omega)]
    rw [hz]
    have b1 : (op == 1) = false := by simp; omega
    have b2 : (op == 2) = false := by simp; omega
    have b3 : (op == 3) = false := by simp; omega
    have b4 : (op == 4) = false := by simp; omega
    have b5 : (op == 5) = false := by simp; omega
    have b6 : (op == 6) = false := by simp; omega
    have b7 : (op == 7) = false := by simp; omega
    have b8 : (op == 8) = false := by simp; omega
    have b9 : (op == 9) = false := by simp; omega
    have b10 : (op == 10) = false := by simp; omega
    have b11 : (op == 11) = false := by simp; omega
    clear h hz
    go_enter Try.func25, Try.ntmps25
    go_wp2_with fail
    go_ret
    exact ⟨rfl, rfl⟩
end Go.Proofs.Ytlfbpcjeohbfkaa
