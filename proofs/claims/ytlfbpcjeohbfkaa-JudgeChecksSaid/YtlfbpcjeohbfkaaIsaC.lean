/-
  What is wrong of an instruction, by the reference of the package isa.
-/
import Derived.Test.YtlfbpcjeohbfkaaIsaB
namespace Go.Proofs.Ytlfbpcjeohbfkaa
open Go.RowKit

set_option maxHeartbeats 4000000 in
theorem refright_none (op n : Int) (hf : Ia.form op = 0) (w : World) :
    Calls Try.prog 19 #[.agg #[.int .i64 op, .int .i32 n]] w fun e w' => e = .returned (.int .i64 9) ∧ Below w.heap.size w w' := by
  have HF := Lib.hid hf
  clear hf
  go_enter Try.func19, Try.ntmps19
  go_wp2_with fail
  refine (refwidth _ _).mono ?_
  rintro e w' ⟨rfl, rfl⟩
  rw [HF.out]
  go_wp2_with fail
  go_ret
  exact ⟨rfl, (Below.refl _ _).alloc (Nat.le_refl _) _⟩
set_option maxHeartbeats 4000000 in
theorem refright_8lo (op n : Int) (hop : op = 8) (h : n < 1) (w : World) :
    Calls Try.prog 19 #[.agg #[.int .i64 op, .int .i32 n]] w fun e w' => e = .returned (.int .i64 9) ∧ Below w.heap.size w w' := by
  subst hop
  have hf : Ia.form 8 = 1 := by decide
  have HF := Lib.hid hf
  clear hf
  go_enter Try.func19, Try.ntmps19
  go_wp2_with fail
  refine (refwidth _ _).mono ?_
  rintro e w' ⟨rfl, rfl⟩
  rw [HF.out]
  go_wp2_with fail
  go_ret
  exact ⟨rfl, (Below.refl _ _).alloc (Nat.le_refl _) _⟩
set_option maxHeartbeats 4000000 in
theorem refright_8hi (op n : Int) (hop : op = 8) (h1 : 1 ≤ n) (h : 2 < n) (w : World) :
    Calls Try.prog 19 #[.agg #[.int .i64 op, .int .i32 n]] w fun e w' => e = .returned (.int .i64 9) ∧ Below w.heap.size w w' := by
  subst hop
  have hf : Ia.form 8 = 1 := by decide
  have HF := Lib.hid hf
  clear hf
  go_enter Try.func19, Try.ntmps19
  go_wp2_with fail
  refine (refwidth _ _).mono ?_
  rintro e w' ⟨rfl, rfl⟩
  rw [HF.out]
  go_wp2_with fail
  go_ret
  exact ⟨rfl, (Below.refl _ _).alloc (Nat.le_refl _) _⟩
set_option maxHeartbeats 4000000 in
theorem refright_8ok (op n : Int) (hop : op = 8) (h1 : 1 ≤ n) (h : n ≤ 2) (w : World) :
    Calls Try.prog 19 #[.agg #[.int .i64 op, .int .i32 n]] w fun e w' => e = .returned (.int .i64 0) ∧ Below w.heap.size w w' := by
  subst hop
  have hf : Ia.form 8 = 1 := by decide
  have HF := Lib.hid hf
  clear hf
  go_enter Try.func19, Try.ntmps19
  go_wp2_with fail
  refine (refwidth _ _).mono ?_
  rintro e w' ⟨rfl, rfl⟩
  rw [HF.out]
  go_wp2_with fail
  refine (refwidth _ _).mono ?_
  rintro e w' ⟨rfl, rfl⟩
  rw [HF.out]
  go_wp2_with fail
  refine (refwidth _ _).mono ?_
  rintro e w' ⟨rfl, rfl⟩
  rw [HF.out]
  go_wp2_with fail
  go_ret
  exact ⟨rfl, (Below.refl _ _).alloc (Nat.le_refl _) _⟩
set_option maxHeartbeats 4000000 in
theorem refright_9lo (op n : Int) (hop : op = 9) (h : n < 1) (w : World) :
    Calls Try.prog 19 #[.agg #[.int .i64 op, .int .i32 n]] w fun e w' => e = .returned (.int .i64 9) ∧ Below w.heap.size w w' := by
  subst hop
  have hf : Ia.form 9 = 1 := by decide
  have HF := Lib.hid hf
  clear hf
  go_enter Try.func19, Try.ntmps19
  go_wp2_with fail
  refine (refwidth _ _).mono ?_
  rintro e w' ⟨rfl, rfl⟩
  rw [HF.out]
  go_wp2_with fail
  go_ret
  exact ⟨rfl, (Below.refl _ _).alloc (Nat.le_refl _) _⟩
set_option maxHeartbeats 4000000 in
theorem refright_9hi (op n : Int) (hop : op = 9) (h1 : 1 ≤ n) (h : 16 < n) (w : World) :
    Calls Try.prog 19 #[.agg #[.int .i64 op, .int .i32 n]] w fun e w' => e = .returned (.int .i64 9) ∧ Below w.heap.size w w' := by
  subst hop
  have hf : Ia.form 9 = 1 := by decide
  have HF := Lib.hid hf
  clear hf
  go_enter Try.func19, Try.ntmps19
  go_wp2_with fail
  refine (refwidth _ _).mono ?_
  rintro e w' ⟨rfl, rfl⟩
  rw [HF.out]
  go_wp2_with fail
  go_ret
  exact ⟨rfl, (Below.refl _ _).alloc (Nat.le_refl _) _⟩
set_option maxHeartbeats 4000000 in
theorem refright_9ok (op n : Int) (hop : op = 9) (h1 : 1 ≤ n) (h : n ≤ 16) (w : World) :
    Calls Try.prog 19 #[.agg #[.int .i64 op, .int .i32 n]] w fun e w' => e = .returned (.int .i64 0) ∧ Below w.heap.size w w' := by
  subst hop
  have hf : Ia.form 9 = 1 := by decide
  have HF := Lib.hid hf
  clear hf
  go_enter Try.func19, Try.ntmps19
  go_wp2_with fail
  refine (refwidth _ _).mono ?_
  rintro e w' ⟨rfl, rfl⟩
  rw [HF.out]
  go_wp2_with fail
  refine (refwidth _ _).mono ?_
  rintro e w' ⟨rfl, rfl⟩
  rw [HF.out]
  go_wp2_with fail
  refine (refwidth _ _).mono ?_
  rintro e w' ⟨rfl, rfl⟩
  rw [HF.out]
  go_wp2_with fail
  go_ret
  exact ⟨rfl, (Below.refl _ _).alloc (Nat.le_refl _) _⟩
set_option maxHeartbeats 4000000 in
theorem refright_2flo (op n : Int) (hf : Ia.form op = 2) (h8 : (op == 8) = false) (h9 : (op == 9) = false) (h : n < 0) (w : World) :
    Calls Try.prog 19 #[.agg #[.int .i64 op, .int .i32 n]] w fun e w' => e = .returned (.int .i64 10) ∧ Below w.heap.size w w' := by
  have HF := Lib.hid hf
  clear hf
  go_enter Try.func19, Try.ntmps19
  go_wp2_with fail
  refine (refwidth _ _).mono ?_
  rintro e w' ⟨rfl, rfl⟩
  rw [HF.out]
  go_wp2_with fail
  refine (refwidth _ _).mono ?_
  rintro e w' ⟨rfl, rfl⟩
  rw [HF.out]
  go_wp2_with fail
  go_ret
  exact ⟨rfl, (Below.refl _ _).alloc (Nat.le_refl _) _⟩
set_option maxHeartbeats 4000000 in
theorem refright_2fhi (op n : Int) (hf : Ia.form op = 2) (h8 : (op == 8) = false) (h9 : (op == 9) = false) (h1 : 0 ≤ n) (h : 65535 < n) (w : World) :
    Calls Try.prog 19 #[.agg #[.int .i64 op, .int .i32 n]] w fun e w' => e = .returned (.int .i64 10) ∧ Below w.heap.size w w' := by
  have HF := Lib.hid hf
  clear hf
  go_enter Try.func19, Try.ntmps19
  go_wp2_with fail
  refine (refwidth _ _).mono ?_
  rintro e w' ⟨rfl, rfl⟩
  rw [HF.out]
  go_wp2_with fail
  refine (refwidth _ _).mono ?_
  rintro e w' ⟨rfl, rfl⟩
  rw [HF.out]
  go_wp2_with fail
  go_ret
  exact ⟨rfl, (Below.refl _ _).alloc (Nat.le_refl _) _⟩
set_option maxHeartbeats 4000000 in
theorem refright_2fok (op n : Int) (hf : Ia.form op = 2) (h8 : (op == 8) = false) (h9 : (op == 9) = false) (h1 : 0 ≤ n) (h : n ≤ 65535) (w : World) :
    Calls Try.prog 19 #[.agg #[.int .i64 op, .int .i32 n]] w fun e w' => e = .returned (.int .i64 0) ∧ Below w.heap.size w w' := by
  have HF := Lib.hid hf
  clear hf
  go_enter Try.func19, Try.ntmps19
  go_wp2_with fail
  refine (refwidth _ _).mono ?_
  rintro e w' ⟨rfl, rfl⟩
  rw [HF.out]
  go_wp2_with fail
  refine (refwidth _ _).mono ?_
  rintro e w' ⟨rfl, rfl⟩
  rw [HF.out]
  go_wp2_with fail
  refine (refwidth _ _).mono ?_
  rintro e w' ⟨rfl, rfl⟩
  rw [HF.out]
  go_wp2_with fail
  go_ret
  exact ⟨rfl, (Below.refl _ _).alloc (Nat.le_refl _) _⟩
set_option maxHeartbeats 4000000 in
theorem refright_1flo (op n : Int) (hf : Ia.form op = 1) (h8 : (op == 8) = false) (h9 : (op == 9) = false) (h : n < 0) (w : World) :
    Calls Try.prog 19 #[.agg #[.int .i64 op, .int .i32 n]] w fun e w' => e = .returned (.int .i64 10) ∧ Below w.heap.size w w' := by
  have HF := Lib.hid hf
  clear hf
  go_enter Try.func19, Try.ntmps19
  go_wp2_with fail
  refine (refwidth _ _).mono ?_
  rintro e w' ⟨rfl, rfl⟩
  rw [HF.out]
  go_wp2_with fail
  refine (refwidth _ _).mono ?_
  rintro e w' ⟨rfl, rfl⟩
  rw [HF.out]
  go_wp2_with fail
  refine (refwidth _ _).mono ?_
  rintro e w' ⟨rfl, rfl⟩
  rw [HF.out]
  go_wp2_with fail
  go_ret
  exact ⟨rfl, (Below.refl _ _).alloc (Nat.le_refl _) _⟩
set_option maxHeartbeats 4000000 in
theorem refright_1fhi (op n : Int) (hf : Ia.form op = 1) (h8 : (op == 8) = false) (h9 : (op == 9) = false) (h1 : 0 ≤ n) (h : 255 < n) (w : World) :
    Calls Try.prog 19 #[.agg #[.int .i64 op, .int .i32 n]] w fun e w' => e = .returned (.int .i64 10) ∧ Below w.heap.size w w' := by
  have HF := Lib.hid hf
  clear hf
  go_enter Try.func19, Try.ntmps19
  go_wp2_with fail
  refine (refwidth _ _).mono ?_
  rintro e w' ⟨rfl, rfl⟩
  rw [HF.out]
  go_wp2_with fail
  refine (refwidth _ _).mono ?_
  rintro e w' ⟨rfl, rfl⟩
  rw [HF.out]
  go_wp2_with fail
  refine (refwidth _ _).mono ?_
  rintro e w' ⟨rfl, rfl⟩
  rw [HF.out]
  go_wp2_with fail
  go_ret
  exact ⟨rfl, (Below.refl _ _).alloc (Nat.le_refl _) _⟩
set_option maxHeartbeats 4000000 in
theorem refright_1fok (op n : Int) (hf : Ia.form op = 1) (h8 : (op == 8) = false) (h9 : (op == 9) = false) (h1 : 0 ≤ n) (h : n ≤ 255) (w : World) :
    Calls Try.prog 19 #[.agg #[.int .i64 op, .int .i32 n]] w fun e w' => e = .returned (.int .i64 0) ∧ Below w.heap.size w w' := by
  have HF := Lib.hid hf
  clear hf
  go_enter Try.func19, Try.ntmps19
  go_wp2_with fail
  refine (refwidth _ _).mono ?_
  rintro e w' ⟨rfl, rfl⟩
  rw [HF.out]
  go_wp2_with fail
  refine (refwidth _ _).mono ?_
  rintro e w' ⟨rfl, rfl⟩
  rw [HF.out]
  go_wp2_with fail
  refine (refwidth _ _).mono ?_
  rintro e w' ⟨rfl, rfl⟩
  rw [HF.out]
  go_wp2_with fail
  go_ret
  exact ⟨rfl, (Below.refl _ _).alloc (Nat.le_refl _) _⟩
set_option maxHeartbeats 4000000 in
theorem refright_push (op n : Int) (hf : Ia.form op = 4) (h8 : (op == 8) = false) (h9 : (op == 9) = false) (w : World) :
    Calls Try.prog 19 #[.agg #[.int .i64 op, .int .i32 n]] w fun e w' => e = .returned (.int .i64 0) ∧ Below w.heap.size w w' := by
  have HF := Lib.hid hf
  clear hf
  go_enter Try.func19, Try.ntmps19
  go_wp2_with fail
  refine (refwidth _ _).mono ?_
  rintro e w' ⟨rfl, rfl⟩
  rw [HF.out]
  go_wp2_with fail
  refine (refwidth _ _).mono ?_
  rintro e w' ⟨rfl, rfl⟩
  rw [HF.out]
  go_wp2_with fail
  refine (refwidth _ _).mono ?_
  rintro e w' ⟨rfl, rfl⟩
  rw [HF.out]
  go_wp2_with fail
  go_ret
  exact ⟨rfl, (Below.refl _ _).alloc (Nat.le_refl _) _⟩
theorem refright (i : Ia.Ins) (w : World) :
    Calls Try.prog 19 #[.agg #[.int .i64 i.op, .int .i32 i.n]] w fun e w' => e = .returned (.int .i64 (Ia.right i)) ∧ Below w.heap.size w w' := by
  obtain ⟨op, n⟩ := i
  unfold Ia.right
  dsimp only
  by_cases f0 : Ia.form op = 0
  · rw [if_pos f0]; exact refright_none op n f0 w
  rw [if_neg f0]
  by_cases f4 : Ia.form op = 4
  · rw [if_pos f4]
    have h1 : op = 1 := by unfold Ia.form at f4; split at f4; assumption; split at f4; omega; split at f4 <;> omega
    subst h1
    exact refright_push 1 n f4 (by decide) (by decide) w
  rw [if_neg f4]
  by_cases h8 : op = 8
  · have hm : Ia.most op = 2 := by rw [h8]; decide
    rw [hm]
    by_cases h1 : n < 1
    · rw [if_pos ⟨.inl h8, .inl h1⟩]; exact refright_8lo op n h8 h1 w
    · by_cases h2 : 2 < n
      · rw [if_pos ⟨.inl h8, .inr h2⟩]; exact refright_8hi op n h8 (by omega) h2 w
      · rw [if_neg (by omega), if_neg (by omega)]; exact refright_8ok op n h8 (by omega) (by omega) w
  by_cases h9 : op = 9
  · have hm : Ia.most op = 16 := by rw [h9]; decide
    rw [hm]
    by_cases h1 : n < 1
    · rw [if_pos ⟨.inr h9, .inl h1⟩]; exact refright_9lo op n h9 h1 w
    · by_cases h2 : 16 < n
      · rw [if_pos ⟨.inr h9, .inr h2⟩]; exact refright_9hi op n h9 (by omega) h2 w
      · rw [if_neg (by omega), if_neg (by omega)]; exact refright_9ok op n h9 (by omega) (by omega) w
  rw [if_neg (fun h => by rcases h.1 with h | h; exact h8 h; exact h9 h)]
  have b8 : (op == 8) = false := by simpa using h8
  have b9 : (op == 9) = false := by simpa using h9
  rcases (Ia.form_le op) with e | e | e | e
  · exact absurd e f0
  · have hm : Ia.most op = 255 := by
      unfold Ia.most
      rw [if_neg h8, if_neg h9, if_neg]
      intro h
      unfold Ia.form at e
      rw [if_neg (by omega), if_pos h] at e
      omega
    rw [hm]
    by_cases h1 : n < 0
    · rw [if_pos (.inl h1)]; exact refright_1flo op n e b8 b9 h1 w
    · by_cases h2 : 255 < n
      · rw [if_pos (.inr h2)]; exact refright_1fhi op n e b8 b9 (by omega) h2 w
      · rw [if_neg (by omega)]; exact refright_1fok op n e b8 b9 (by omega) (by omega) w
  · have hm : Ia.most op = 65535 := by
      unfold Ia.most
      rw [if_neg h8, if_neg h9, if_pos]
      unfold Ia.form at e
      by_cases h1 : op = 1
      · rw [if_pos h1] at e; omega
      · rw [if_neg h1] at e
        by_cases h2 : op = 10 ∨ op = 11
        · exact h2
        · rw [if_neg h2] at e
          split at e <;> omega
    rw [hm]
    by_cases h1 : n < 0
    · rw [if_pos (.inl h1)]; exact refright_2flo op n e b8 b9 h1 w
    · by_cases h2 : 65535 < n
      · rw [if_pos (.inr h2)]; exact refright_2fhi op n e b8 b9 (by omega) h2 w
      · rw [if_neg (by omega)]; exact refright_2fok op n e b8 b9 (by omega) (by omega) w
  · exact absurd e f4
end Go.Proofs.Ytlfbpcjeohbfkaa
