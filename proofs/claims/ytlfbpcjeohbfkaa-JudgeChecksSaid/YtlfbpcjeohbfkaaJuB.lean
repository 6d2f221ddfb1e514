/-
  What an instruction takes, gives and touches, by the package judge.
-/
import Derived.Test.YtlfbpcjeohbfkaaJuA
namespace Go.Proofs.Ytlfbpcjeohbfkaa
open Go.RowKit Mem
set_option maxHeartbeats 1000000 in
theorem eff_1 (sl ol nw is os : Int) (w : World) : Calls Try.prog 23 #[.int .i64 1, .agg #[.int .i64 sl, .int .i64 ol, .int .i64 nw, .int .i64 is, .int .i64 os]] w fun e w' => e = .returned (.agg #[.int .i64 0, .int .i64 1, .int .i64 (-1)]) ∧ Below w.heap.size w w' := by
  go_enter Try.func23, Try.ntmps23
  go_wp2_with fail
  exact bodyPost_ret (v := .agg #[.int .i64 0, .int .i64 1, .int .i64 (-1)]) (results_cell_row (P := Try.prog) rfl _ _ (w.heap.size + 1) 58 #[.int .i64 0, .int .i64 1, .int .i64 (-1)] (0, 0) _ rfl (heap_alloc2_new _ _ _) Try.underlying58 rfl (by kernel_rfl)) rfl ⟨rfl, ((Below.refl _ _).alloc (Nat.le_refl _) _).alloc (by simp) _⟩
set_option maxHeartbeats 1000000 in
theorem eff_2 (sl ol nw is os : Int) (w : World) : Calls Try.prog 23 #[.int .i64 2, .agg #[.int .i64 sl, .int .i64 ol, .int .i64 nw, .int .i64 is, .int .i64 os]] w fun e w' => e = .returned (.agg #[.int .i64 0, .int .i64 1, .int .i64 sl]) ∧ Below w.heap.size w w' := by
  go_enter Try.func23, Try.ntmps23
  go_wp2_with fail
  exact bodyPost_ret (v := .agg #[.int .i64 0, .int .i64 1, .int .i64 sl]) (results_cell_row (P := Try.prog) rfl _ _ (w.heap.size + 1) 58 #[.int .i64 0, .int .i64 1, .int .i64 sl] (0, 0) _ rfl (heap_alloc2_new _ _ _) Try.underlying58 rfl (by kernel_rfl)) rfl ⟨rfl, ((Below.refl _ _).alloc (Nat.le_refl _) _).alloc (by simp) _⟩
set_option maxHeartbeats 1000000 in
theorem eff_3 (sl ol nw is os : Int) (w : World) : Calls Try.prog 23 #[.int .i64 3, .agg #[.int .i64 sl, .int .i64 ol, .int .i64 nw, .int .i64 is, .int .i64 os]] w fun e w' => e = .returned (.agg #[.int .i64 1, .int .i64 0, .int .i64 sl]) ∧ Below w.heap.size w w' := by
  go_enter Try.func23, Try.ntmps23
  go_wp2_with fail
  exact bodyPost_ret (v := .agg #[.int .i64 1, .int .i64 0, .int .i64 sl]) (results_cell_row (P := Try.prog) rfl _ _ (w.heap.size + 1) 58 #[.int .i64 1, .int .i64 0, .int .i64 sl] (0, 0) _ rfl (heap_alloc2_new _ _ _) Try.underlying58 rfl (by kernel_rfl)) rfl ⟨rfl, ((Below.refl _ _).alloc (Nat.le_refl _) _).alloc (by simp) _⟩
set_option maxHeartbeats 1000000 in
theorem eff_4 (sl ol nw is os : Int) (w : World) : Calls Try.prog 23 #[.int .i64 4, .agg #[.int .i64 sl, .int .i64 ol, .int .i64 nw, .int .i64 is, .int .i64 os]] w fun e w' => e = .returned (.agg #[.int .i64 0, .int .i64 1, .int .i64 ol]) ∧ Below w.heap.size w w' := by
  go_enter Try.func23, Try.ntmps23
  go_wp2_with fail
  exact bodyPost_ret (v := .agg #[.int .i64 0, .int .i64 1, .int .i64 ol]) (results_cell_row (P := Try.prog) rfl _ _ (w.heap.size + 1) 58 #[.int .i64 0, .int .i64 1, .int .i64 ol] (0, 0) _ rfl (heap_alloc2_new _ _ _) Try.underlying58 rfl (by kernel_rfl)) rfl ⟨rfl, ((Below.refl _ _).alloc (Nat.le_refl _) _).alloc (by simp) _⟩
set_option maxHeartbeats 1000000 in
theorem eff_5 (sl ol nw is os : Int) (w : World) : Calls Try.prog 23 #[.int .i64 5, .agg #[.int .i64 sl, .int .i64 ol, .int .i64 nw, .int .i64 is, .int .i64 os]] w fun e w' => e = .returned (.agg #[.int .i64 1, .int .i64 0, .int .i64 nw]) ∧ Below w.heap.size w w' := by
  go_enter Try.func23, Try.ntmps23
  go_wp2_with fail
  exact bodyPost_ret (v := .agg #[.int .i64 1, .int .i64 0, .int .i64 nw]) (results_cell_row (P := Try.prog) rfl _ _ (w.heap.size + 1) 58 #[.int .i64 1, .int .i64 0, .int .i64 nw] (0, 0) _ rfl (heap_alloc2_new _ _ _) Try.underlying58 rfl (by kernel_rfl)) rfl ⟨rfl, ((Below.refl _ _).alloc (Nat.le_refl _) _).alloc (by simp) _⟩
set_option maxHeartbeats 1000000 in
theorem eff_6 (sl ol nw is os : Int) (w : World) : Calls Try.prog 23 #[.int .i64 6, .agg #[.int .i64 sl, .int .i64 ol, .int .i64 nw, .int .i64 is, .int .i64 os]] w fun e w' => e = .returned (.agg #[.int .i64 0, .int .i64 1, .int .i64 is]) ∧ Below w.heap.size w w' := by
  go_enter Try.func23, Try.ntmps23
  go_wp2_with fail
  exact bodyPost_ret (v := .agg #[.int .i64 0, .int .i64 1, .int .i64 is]) (results_cell_row (P := Try.prog) rfl _ _ (w.heap.size + 1) 58 #[.int .i64 0, .int .i64 1, .int .i64 is] (0, 0) _ rfl (heap_alloc2_new _ _ _) Try.underlying58 rfl (by kernel_rfl)) rfl ⟨rfl, ((Below.refl _ _).alloc (Nat.le_refl _) _).alloc (by simp) _⟩
set_option maxHeartbeats 1000000 in
theorem eff_7 (sl ol nw is os : Int) (w : World) : Calls Try.prog 23 #[.int .i64 7, .agg #[.int .i64 sl, .int .i64 ol, .int .i64 nw, .int .i64 is, .int .i64 os]] w fun e w' => e = .returned (.agg #[.int .i64 1, .int .i64 0, .int .i64 os]) ∧ Below w.heap.size w w' := by
  go_enter Try.func23, Try.ntmps23
  go_wp2_with fail
  exact bodyPost_ret (v := .agg #[.int .i64 1, .int .i64 0, .int .i64 os]) (results_cell_row (P := Try.prog) rfl _ _ (w.heap.size + 1) 58 #[.int .i64 1, .int .i64 0, .int .i64 os] (0, 0) _ rfl (heap_alloc2_new _ _ _) Try.underlying58 rfl (by kernel_rfl)) rfl ⟨rfl, ((Below.refl _ _).alloc (Nat.le_refl _) _).alloc (by simp) _⟩
set_option maxHeartbeats 1000000 in
theorem eff_8 (sl ol nw is os : Int) (w : World) : Calls Try.prog 23 #[.int .i64 8, .agg #[.int .i64 sl, .int .i64 ol, .int .i64 nw, .int .i64 is, .int .i64 os]] w fun e w' => e = .returned (.agg #[.int .i64 1, .int .i64 1, .int .i64 (-1)]) ∧ Below w.heap.size w w' := by
  go_enter Try.func23, Try.ntmps23
  go_wp2_with fail
  exact bodyPost_ret (v := .agg #[.int .i64 1, .int .i64 1, .int .i64 (-1)]) (results_cell_row (P := Try.prog) rfl _ _ (w.heap.size + 1) 58 #[.int .i64 1, .int .i64 1, .int .i64 (-1)] (0, 0) _ rfl (heap_alloc2_new _ _ _) Try.underlying58 rfl (by kernel_rfl)) rfl ⟨rfl, ((Below.refl _ _).alloc (Nat.le_refl _) _).alloc (by simp) _⟩
set_option maxHeartbeats 1000000 in
theorem eff_9 (sl ol nw is os : Int) (w : World) : Calls Try.prog 23 #[.int .i64 9, .agg #[.int .i64 sl, .int .i64 ol, .int .i64 nw, .int .i64 is, .int .i64 os]] w fun e w' => e = .returned (.agg #[.int .i64 2, .int .i64 1, .int .i64 (-1)]) ∧ Below w.heap.size w w' := by
  go_enter Try.func23, Try.ntmps23
  go_wp2_with fail
  exact bodyPost_ret (v := .agg #[.int .i64 2, .int .i64 1, .int .i64 (-1)]) (results_cell_row (P := Try.prog) rfl _ _ (w.heap.size + 1) 58 #[.int .i64 2, .int .i64 1, .int .i64 (-1)] (0, 0) _ rfl (heap_alloc2_new _ _ _) Try.underlying58 rfl (by kernel_rfl)) rfl ⟨rfl, ((Below.refl _ _).alloc (Nat.le_refl _) _).alloc (by simp) _⟩
set_option maxHeartbeats 1000000 in
theorem eff_10 (sl ol nw is os : Int) (w : World) : Calls Try.prog 23 #[.int .i64 10, .agg #[.int .i64 sl, .int .i64 ol, .int .i64 nw, .int .i64 is, .int .i64 os]] w fun e w' => e = .returned (.agg #[.int .i64 0, .int .i64 0, .int .i64 (-1)]) ∧ Below w.heap.size w w' := by
  go_enter Try.func23, Try.ntmps23
  go_wp2_with fail
  exact bodyPost_ret (v := .agg #[.int .i64 0, .int .i64 0, .int .i64 (-1)]) (results_cell_row (P := Try.prog) rfl _ _ (w.heap.size + 1) 58 #[.int .i64 0, .int .i64 0, .int .i64 (-1)] (0, 0) _ rfl (heap_alloc2_new _ _ _) Try.underlying58 rfl (by kernel_rfl)) rfl ⟨rfl, ((Below.refl _ _).alloc (Nat.le_refl _) _).alloc (by simp) _⟩
set_option maxHeartbeats 1000000 in
theorem eff_11 (sl ol nw is os : Int) (w : World) : Calls Try.prog 23 #[.int .i64 11, .agg #[.int .i64 sl, .int .i64 ol, .int .i64 nw, .int .i64 is, .int .i64 os]] w fun e w' => e = .returned (.agg #[.int .i64 1, .int .i64 0, .int .i64 (-1)]) ∧ Below w.heap.size w w' := by
  go_enter Try.func23, Try.ntmps23
  go_wp2_with fail
  exact bodyPost_ret (v := .agg #[.int .i64 1, .int .i64 0, .int .i64 (-1)]) (results_cell_row (P := Try.prog) rfl _ _ (w.heap.size + 1) 58 #[.int .i64 1, .int .i64 0, .int .i64 (-1)] (0, 0) _ rfl (heap_alloc2_new _ _ _) Try.underlying58 rfl (by kernel_rfl)) rfl ⟨rfl, ((Below.refl _ _).alloc (Nat.le_refl _) _).alloc (by simp) _⟩
set_option maxHeartbeats 1000000 in
theorem eff_x (op sl ol nw is os : Int) (h : ¬ (1 ≤ op ∧ op ≤ 11)) (w : World) : Calls Try.prog 23 #[.int .i64 op, .agg #[.int .i64 sl, .int .i64 ol, .int .i64 nw, .int .i64 is, .int .i64 os]] w fun e w' => e = .returned (.agg #[.int .i64 0, .int .i64 0, .int .i64 (-1)]) ∧ Below w.heap.size w w' := by
  have b1 : (op == 1) = false := by simp; omega
  have b2 : (op == 2) = false := by simp; omega
  have b3 : (op == 3) = false := by simp; omega
  have b4 : (op == 4) = false := by simp; omega
  have b5 : (op == 5) = false := by simp; omega
  have b6 : (op == 6) = false := by simp; omega
  have b7 : (op == 7) = false := by simp; omega
  have b8 : (op == 8) = false := by simp; omega
  have b9 : (op == 9) = false := by simp; omega
  have b10 : (op == 10) = false := by simp; omega
  have b11 : (op == 11) = false := by simp; omega
  clear h
  go_enter Try.func23, Try.ntmps23
  go_wp2_with fail
  exact bodyPost_ret (v := .agg #[.int .i64 0, .int .i64 0, .int .i64 (-1)]) (results_cell_row (P := Try.prog) rfl _ _ (w.heap.size + 1) 58 #[.int .i64 0, .int .i64 0, .int .i64 (-1)] (0, 0) _ rfl (heap_alloc2_new _ _ _) Try.underlying58 rfl (by kernel_rfl)) rfl ⟨rfl, ((Below.refl _ _).alloc (Nat.le_refl _) _).alloc (by simp) _⟩
theorem effectOf (op : Int) (f : Ju.Fr) (w : World) : Calls Try.prog 23 #[.int .i64 op, frAgg f] w fun e w' => e = .returned (effAgg op f) ∧ Below w.heap.size w w' := by
  by_cases h : 1 ≤ op ∧ op ≤ 11
  · rcases (show op = 1 ∨ op = 2 ∨ op = 3 ∨ op = 4 ∨ op = 5 ∨ op = 6 ∨ op = 7 ∨ op = 8 ∨ op = 9 ∨ op = 10 ∨ op = 11 by omega) with rfl | rfl | rfl | rfl | rfl | rfl | rfl | rfl | rfl | rfl | rfl
    · exact eff_1 _ _ _ _ _ w
    · exact eff_2 _ _ _ _ _ w
    · exact eff_3 _ _ _ _ _ w
    · exact eff_4 _ _ _ _ _ w
    · exact eff_5 _ _ _ _ _ w
    · exact eff_6 _ _ _ _ _ w
    · exact eff_7 _ _ _ _ _ w
    · exact eff_8 _ _ _ _ _ w
    · exact eff_9 _ _ _ _ _ w
    · exact eff_10 _ _ _ _ _ w
    · exact eff_11 _ _ _ _ _ w
  · have e : effAgg op f = .agg #[.int .i64 0, .int .i64 0, .int .i64 (-1)] := by
      obtain ⟨z1, z2, z3⟩ := eff_none h f
      unfold effAgg
      rw [z1, z2, z3]
    rw [e]
    exact eff_x op _ _ _ _ _ h w
end Go.Proofs.Ytlfbpcjeohbfkaa
