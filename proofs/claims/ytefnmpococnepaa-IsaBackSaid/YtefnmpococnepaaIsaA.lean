/-
  The small functions of the package isa and of its reference: how many bytes a number has, how great it may be.
-/
import Derived.Test.YtefnmpococnepaaRows
import Derived.Test.YtefnmpococnepaaIsaPlain
import Derived.WalkKit
import Derived.WalkSpells
import Derived.WalkLawsBesides
import Derived.Handy
import Derived.Lib.Hide
import Derived.LoopTactic
import Derived.BigQuiet
import Derived.Deep.QuietTactic
namespace Go.Proofs.Ytefnmpococnepaa
open Go.RowKit

theorem ret_int {k : IntKind} {a b : Int} (h : b = a) : Ending.returned (.int k a) = .returned (.int k b) := by rw [h]
theorem isaform (op : Int) (w : World) :
    Calls Try.prog 30 #[.int .i64 op] w fun e w' => e = .returned (.int .i64 (Ia.form op)) ∧ w = w' := by
  unfold Ia.form
  by_cases h1 : op = 1
  · subst h1
    go_enter Try.func30, Try.ntmps30
    go_wp2_with fail
    go_ret
    exact ⟨rfl, rfl⟩
  rw [if_neg h1]
  by_cases h2 : op = 10
  · subst h2
    go_enter Try.func30, Try.ntmps30
    go_wp2_with fail
    go_ret
    exact ⟨rfl, rfl⟩
  by_cases h3 : op = 11
  · subst h3
    go_enter Try.func30, Try.ntmps30
    go_wp2_with fail
    go_ret
    exact ⟨rfl, rfl⟩
  rw [if_neg (by omega)]
  have b1 : (op == 1) = false := by simpa using h1
  have b2 : (op == 10) = false := by simpa using h2
  have b3 : (op == 11) = false := by simpa using h3
  by_cases h4 : 1 < op
  · by_cases h5 : op < 10
    · rw [if_pos ⟨h4, h5⟩]
      clear h1 h2 h3
      go_enter Try.func30, Try.ntmps30
      go_wp2_with fail
      go_ret
      exact ⟨rfl, rfl⟩
    · rw [if_neg (by omega)]
      clear h1 h2 h3
      go_enter Try.func30, Try.ntmps30
      go_wp2_with fail
      go_ret
      exact ⟨rfl, rfl⟩
  · rw [if_neg (by omega)]
    clear h1 h2 h3
    go_enter Try.func30, Try.ntmps30
    go_wp2_with fail
    go_ret
    exact ⟨rfl, rfl⟩
theorem isamost (op : Int) (w : World) :
    Calls Try.prog 39 #[.int .i64 op] w fun e w' => e = .returned (.int .i32 (Ia.most op)) ∧ w = w' := by
  unfold Ia.most
  by_cases h1 : op = 8
  · subst h1
    go_enter Try.func39, Try.ntmps39
    go_wp2_with fail
    go_ret
    exact ⟨rfl, rfl⟩
  by_cases h2 : op = 9
  · subst h2
    go_enter Try.func39, Try.ntmps39
    go_wp2_with fail
    go_ret
    exact ⟨rfl, rfl⟩
  by_cases h3 : op = 10
  · subst h3
    go_enter Try.func39, Try.ntmps39
    go_wp2_with fail
    go_ret
    exact ⟨rfl, rfl⟩
  by_cases h4 : op = 11
  · subst h4
    go_enter Try.func39, Try.ntmps39
    go_wp2_with fail
    go_ret
    exact ⟨rfl, rfl⟩
  rw [if_neg h1, if_neg h2, if_neg (by omega)]
  have b1 : (op == 8) = false := by simpa using h1
  have b2 : (op == 9) = false := by simpa using h2
  have b3 : (op == 10) = false := by simpa using h3
  have b4 : (op == 11) = false := by simpa using h4
  clear h1 h2 h3 h4
  go_enter Try.func39, Try.ntmps39
  go_wp2_with fail
  go_ret
  exact ⟨rfl, rfl⟩
set_option maxHeartbeats 1000000 in
theorem refwidth (op : Int) (w : World) :
    Calls Try.prog 32 #[.int .i64 op] w fun e w' => e = .returned (.int .i64 (Ia.form op)) ∧ w = w' := by
  by_cases h : 1 ≤ op ∧ op ≤ 11
  · rcases (show op = 1 ∨ op = 2 ∨ op = 3 ∨ op = 4 ∨ op = 5 ∨ op = 6 ∨ op = 7 ∨ op = 8 ∨ op = 9 ∨ op = 10 ∨ op = 11 by omega) with rfl | rfl | rfl | rfl | rfl | rfl | rfl | rfl | rfl | rfl | rfl
    all_goals
      go_enter Try.func32, Try.ntmps32
      go_wp2_with fail
      go_ret
      exact ⟨rfl, rfl⟩
  · have hz : Ia.form op = 0 := by unfold Ia.form; rw [if_neg (by omega), if_neg (by omega), if_neg (by omega)]
    rw [hz]
    have b1 : (op == 1) = false := by simp; omega
    have b2 : (op == 2) = false := by simp; omega
    have b3 : (op == 3) = false := by simp; omega
    have b4 : (op == 4) = false := by simp; omega
    have b5 : (op == 5) = false := by simp; omega
    have b6 : (op == 6) = false := by simp; omega
    have b7 : (op == 7) = false := by simp; omega
    have b8 : (op == 8) = false := by simp; omega
    have b9 : (op == 9) = false := by simp; omega
    have b10 : (op == 10) = false := by simp; omega
    have b11 : (op == 11) = false := by simp; omega
    clear h hz
    go_enter Try.func32, Try.ntmps32
    go_wp2_with fail
    go_ret
    exact ⟨rfl, rfl⟩
theorem octplain (n : Int) (h1 : -2147483648 ≤ n) (h2 : n ≤ 2147483647) (w : World) :
    Calls Try.prog 36 #[.int .i32 n] w fun e w' => e = .returned (.int .u32 (Ia.plainN n)) ∧ w = w' := by
  go_enter Try.func36, Try.ntmps36
  go_wp2_with fail
  go_ret
  refine ⟨ret_int ?_, rfl⟩
  unfold Ia.plainN
  omega
theorem octsigned (u : Nat) (h : u < 4294967296) (w : World) :
    Calls Try.prog 31 #[.int .u32 u] w fun e w' => e = .returned (.int .i32 (Ia.signedN u)) ∧ w = w' := by
  go_enter Try.func31, Try.ntmps31
  go_wp2_with fail
  go_ret
  refine ⟨ret_int ?_, rfl⟩
  unfold Ia.signedN
  unfold wrap32
  split <;> omega
end Go.Proofs.Ytefnmpococnepaa
