/-
  What is wrong of an instruction, by the package isa and by its reference.
-/
import Derived.Test.YtlfbpcjeohbfkaaIsaA
import Derived.Test.YtlfbpcjeohbfkaaMem
namespace Go.Proofs.Ytlfbpcjeohbfkaa
open Go.RowKit

theorem same_right {P : Program} {f : FuncId} {args : Array Value} {w : World} {v : Value} (h : Calls P f args w fun e w' => e = .returned v ∧ w = w') : Calls P f args w fun e w' => e = .returned v ∧ w' = w :=
  h.mono fun _ _ ⟨a, b⟩ => ⟨a, b.symm⟩
theorem quiet_add_same {P : Program} {f : FuncId} {args : Array Value} {w : World} {a n : Nat} {v : Value}
    (h : Calls P f args (w.drewN (a + n)) fun e w' => e = .returned v ∧ w' = w.drewN (a + n)) :
    Calls P f args (w.drewN (a + n)) fun e w'' => e = .returned v ∧ ∃ m, w'' = w.drewN (a + m) :=
  h.mono fun _ _ ⟨he, hm⟩ => ⟨he, n, hm⟩
set_option maxHeartbeats 2000000 in
theorem isaright_none (op n : Int) (hf : Ia.form op = 0) (w : World) :
    Calls Try.prog 22 #[.agg #[.int .i64 op, .int .i32 n]] w fun e w' => e = .returned (.int .i64 9) ∧ Below w.heap.size w w' := by
  have HF := Lib.hid hf
  clear hf
  go_enter Try.func22, Try.ntmps22
  go_wp2_with fail
  refine (isaform _ _).mono ?_
  rintro e w' ⟨rfl, rfl⟩
  rw [HF.out]
  go_wp2_with fail
  go_ret
  exact ⟨rfl, (Below.refl _ _).alloc (Nat.le_refl _) _⟩
set_option maxHeartbeats 2000000 in
theorem isaright_push (op n : Int) (hf : Ia.form op = 4) (w : World) :
    Calls Try.prog 22 #[.agg #[.int .i64 op, .int .i32 n]] w fun e w' => e = .returned (.int .i64 0) ∧ Below w.heap.size w w' := by
  have HF := Lib.hid hf
  clear hf
  go_enter Try.func22, Try.ntmps22
  go_wp2_with fail
  refine (isaform _ _).mono ?_
  rintro e w' ⟨rfl, rfl⟩
  rw [HF.out]
  go_wp2_with fail
  go_ret
  exact ⟨rfl, (Below.refl _ _).alloc (Nat.le_refl _) _⟩
set_option maxHeartbeats 4000000 in
theorem isaright_8lo (n : Int) (h : n < 1) (w : World) :
    Calls Try.prog 22 #[.agg #[.int .i64 8, .int .i32 n]] w fun e w' => e = .returned (.int .i64 9) ∧ Below w.heap.size w w' := by
  have hm : Ia.most 8 = 2 := by decide
  have HM := Lib.hid hm
  clear hm
  go_enter Try.func22, Try.ntmps22
  go_wp2_with fail
  refine (isaform _ _).mono ?_
  rintro e w' ⟨rfl, rfl⟩
  rw [show Ia.form 8 = 1 by decide]
  go_wp2_with fail
  go_quiet ((go_at_call 27; exact Calls.quiet_of_same (same_right (HM.out ▸ isamost 8 _))))
  go_wp2_with fail
  go_ret
  refine ⟨rfl, ?_⟩
  first | exact Mem.below_drewN ((Below.refl _ _).alloc (Nat.le_refl _) _) _ | exact Mem.below_drewN (Mem.below_drewN ((Below.refl _ _).alloc (Nat.le_refl _) _) _) _
set_option maxHeartbeats 4000000 in
theorem isaright_8hi (n : Int) (h1 : 1 ≤ n) (h : 2 < n) (w : World) :
    Calls Try.prog 22 #[.agg #[.int .i64 8, .int .i32 n]] w fun e w' => e = .returned (.int .i64 9) ∧ Below w.heap.size w w' := by
  have hm : Ia.most 8 = 2 := by decide
  have HM := Lib.hid hm
  clear hm
  go_enter Try.func22, Try.ntmps22
  go_wp2_with fail
  refine (isaform _ _).mono ?_
  rintro e w' ⟨rfl, rfl⟩
  rw [show Ia.form 8 = 1 by decide]
  go_wp2_with fail
  go_quiet ((go_at_call 27; exact Calls.quiet_of_same (same_right (HM.out ▸ isamost 8 _))))
  go_wp2_with fail
  go_ret
  refine ⟨rfl, ?_⟩
  first | exact Mem.below_drewN ((Below.refl _ _).alloc (Nat.le_refl _) _) _ | exact Mem.below_drewN (Mem.below_drewN ((Below.refl _ _).alloc (Nat.le_refl _) _) _) _
set_option maxHeartbeats 4000000 in
theorem isaright_8ok (n : Int) (h1 : 1 ≤ n) (h : n ≤ 2) (w : World) :
    Calls Try.prog 22 #[.agg #[.int .i64 8, .int .i32 n]] w fun e w' => e = .returned (.int .i64 0) ∧ Below w.heap.size w w' := by
  have hm : Ia.most 8 = 2 := by decide
  have HM := Lib.hid hm
  clear hm
  have d0 : decide (n < 0) = false := by simp; omega
  go_enter Try.func22, Try.ntmps22
  go_wp2_with fail
  refine (isaform _ _).mono ?_
  rintro e w' ⟨rfl, rfl⟩
  rw [show Ia.form 8 = 1 by decide]
  go_wp2_with fail
  go_quiet ((go_at_call 27; exact Calls.quiet_of_same (same_right (HM.out ▸ isamost 8 _))))
  go_wp2_with fail
  go_quiet ((go_at_call 27; exact quiet_add_same (same_right (HM.out ▸ isamost 8 _))))
  go_wp2_with fail
  go_ret
  refine ⟨rfl, ?_⟩
  first | exact Mem.below_drewN ((Below.refl _ _).alloc (Nat.le_refl _) _) _ | exact Mem.below_drewN (Mem.below_drewN ((Below.refl _ _).alloc (Nat.le_refl _) _) _) _
set_option maxHeartbeats 4000000 in
theorem isaright_9lo (n : Int) (h : n < 1) (w : World) :
    Calls Try.prog 22 #[.agg #[.int .i64 9, .int .i32 n]] w fun e w' => e = .returned (.int .i64 9) ∧ Below w.heap.size w w' := by
  have hm : Ia.most 9 = 16 := by decide
  have HM := Lib.hid hm
  clear hm
  go_enter Try.func22, Try.ntmps22
  go_wp2_with fail
  refine (isaform _ _).mono ?_
  rintro e w' ⟨rfl, rfl⟩
  rw [show Ia.form 9 = 1 by decide]
  go_wp2_with fail
  go_quiet ((go_at_call 27; exact Calls.quiet_of_same (same_right (HM.out ▸ isamost 9 _))))
  go_wp2_with fail
  go_ret
  refine ⟨rfl, ?_⟩
  first | exact Mem.below_drewN ((Below.refl _ _).alloc (Nat.le_refl _) _) _ | exact Mem.below_drewN (Mem.below_drewN ((Below.refl _ _).alloc (Nat.le_refl _) _) _) _
set_option maxHeartbeats 4000000 in
theorem isaright_9hi (n : Int) (h1 : 1 ≤ n) (h : 16 < n) (w : World) :
    Calls Try.prog 22 #[.agg #[.int .i64 9, .int .i32 n]] w fun e w' => e = .returned (.int .i64 9) ∧ Below w.heap.size w w' := by
  have hm : Ia.most 9 = 16 := by decide
  have HM := Lib.hid hm
  clear hm
  go_enter Try.func22, Try.ntmps22
  go_wp2_with fail
  refine (isaform _ _).mono ?_
  rintro e w' ⟨rfl, rfl⟩
  rw [show Ia.form 9 = 1 by decide]
  go_wp2_with fail
  go_quiet ((go_at_call 27; exact Calls.quiet_of_same (same_right (HM.out ▸ isamost 9 _))))
  go_wp2_with fail
  go_ret
  refine ⟨rfl, ?_⟩
  first | exact Mem.below_drewN ((Below.refl _ _).alloc (Nat.le_refl _) _) _ | exact Mem.below_drewN (Mem.below_drewN ((Below.refl _ _).alloc (Nat.le_refl _) _) _) _
set_option maxHeartbeats 4000000 in
theorem isaright_9ok (n : Int) (h1 : 1 ≤ n) (h : n ≤ 16) (w : World) :
    Calls Try.prog 22 #[.agg #[.int .i64 9, .int .i32 n]] w fun e w' => e = .returned (.int .i64 0) ∧ Below w.heap.size w w' := by
  have hm : Ia.most 9 = 16 := by decide
  have HM := Lib.hid hm
  clear hm
  have d0 : decide (n < 0) = false := by simp; omega
  go_enter Try.func22, Try.ntmps22
  go_wp2_with fail
  refine (isaform _ _).mono ?_
  rintro e w' ⟨rfl, rfl⟩
  rw [show Ia.form 9 = 1 by decide]
  go_wp2_with fail
  go_quiet ((go_at_call 27; exact Calls.quiet_of_same (same_right (HM.out ▸ isamost 9 _))))
  go_wp2_with fail
  go_quiet ((go_at_call 27; exact quiet_add_same (same_right (HM.out ▸ isamost 9 _))))
  go_wp2_with fail
  go_ret
  refine ⟨rfl, ?_⟩
  first | exact Mem.below_drewN ((Below.refl _ _).alloc (Nat.le_refl _) _) _ | exact Mem.below_drewN (Mem.below_drewN ((Below.refl _ _).alloc (Nat.le_refl _) _) _) _
set_option maxHeartbeats 4000000 in
theorem isaright_olo (op n m : Int) (f : Nat) (hf : Ia.form op = f) (hf0 : ((f : Int) == 0) = false) (hf4 : ((f : Int) == 4) = false) (h8 : (op == 8) = false) (h9 : (op == 9) = false) (hm : Ia.most op = m) (h : n < 0) (w : World) :
    Calls Try.prog 22 #[.agg #[.int .i64 op, .int .i32 n]] w fun e w' => e = .returned (.int .i64 10) ∧ Below w.heap.size w w' := by
  have HM := Lib.hid hm
  have HF := Lib.hid hf
  clear hm hf
  have d0 : decide (n < 0) = true := by simp; omega
  go_enter Try.func22, Try.ntmps22
  go_wp2_with fail
  refine (isaform _ _).mono ?_
  rintro e w' ⟨rfl, rfl⟩
  rw [HF.out]
  go_wp2_with fail
  go_quiet ((go_at_call 27; exact Calls.quiet_of_same (same_right (HM.out ▸ isamost op _))))
  go_wp2_with fail
  go_quiet ((go_at_call 27; exact quiet_add_same (same_right (HM.out ▸ isamost op _))))
  go_wp2_with fail
  go_ret
  refine ⟨rfl, ?_⟩
  first | exact Mem.below_drewN ((Below.refl _ _).alloc (Nat.le_refl _) _) _ | exact Mem.below_drewN (Mem.below_drewN ((Below.refl _ _).alloc (Nat.le_refl _) _) _) _
set_option maxHeartbeats 4000000 in
theorem isaright_ohi (op n m : Int) (f : Nat) (hf : Ia.form op = f) (hf0 : ((f : Int) == 0) = false) (hf4 : ((f : Int) == 4) = false) (h8 : (op == 8) = false) (h9 : (op == 9) = false) (hm : Ia.most op = m) (h1 : 0 ≤ n) (h : m < n) (w : World) :
    Calls Try.prog 22 #[.agg #[.int .i64 op, .int .i32 n]] w fun e w' => e = .returned (.int .i64 10) ∧ Below w.heap.size w w' := by
  have HM := Lib.hid hm
  have HF := Lib.hid hf
  clear hm hf
  have d0 : decide (n < 0) = false := by simp; omega
  go_enter Try.func22, Try.ntmps22
  go_wp2_with fail
  refine (isaform _ _).mono ?_
  rintro e w' ⟨rfl, rfl⟩
  rw [HF.out]
  go_wp2_with fail
  go_quiet ((go_at_call 27; exact Calls.quiet_of_same (same_right (HM.out ▸ isamost op _))))
  go_wp2_with fail
  go_quiet ((go_at_call 27; exact quiet_add_same (same_right (HM.out ▸ isamost op _))))
  go_wp2_with fail
  go_ret
  refine ⟨rfl, ?_⟩
  first | exact Mem.below_drewN ((Below.refl _ _).alloc (Nat.le_refl _) _) _ | exact Mem.below_drewN (Mem.below_drewN ((Below.refl _ _).alloc (Nat.le_refl _) _) _) _
set_option maxHeartbeats 4000000 in
theorem isaright_ook (op n m : Int) (f : Nat) (hf : Ia.form op = f) (hf0 : ((f : Int) == 0) = false) (hf4 : ((f : Int) == 4) = false) (h8 : (op == 8) = false) (h9 : (op == 9) = false) (hm : Ia.most op = m) (h1 : 0 ≤ n) (h : n ≤ m) (w : World) :
    Calls Try.prog 22 #[.agg #[.int .i64 op, .int .i32 n]] w fun e w' => e = .returned (.int .i64 0) ∧ Below w.heap.size w w' := by
  have HM := Lib.hid hm
  have HF := Lib.hid hf
  clear hm hf
  have d0 : decide (n < 0) = false := by simp; omega
  go_enter Try.func22, Try.ntmps22
  go_wp2_with fail
  refine (isaform _ _).mono ?_
  rintro e w' ⟨rfl, rfl⟩
  rw [HF.out]
  go_wp2_with fail
  go_quiet ((go_at_call 27; exact Calls.quiet_of_same (same_right (HM.out ▸ isamost op _))))
  go_wp2_with fail
  go_quiet ((go_at_call 27; exact quiet_add_same (same_right (HM.out ▸ isamost op _))))
  go_wp2_with fail
  go_ret
  refine ⟨rfl, ?_⟩
  first | exact Mem.below_drewN ((Below.refl _ _).alloc (Nat.le_refl _) _) _ | exact Mem.below_drewN (Mem.below_drewN ((Below.refl _ _).alloc (Nat.le_refl _) _) _) _
/-- what is wrong of an instruction, as the package isa tells it -/
theorem isaright (i : Ia.Ins) (w : World) :
    Calls Try.prog 22 #[.agg #[.int .i64 i.op, .int .i32 i.n]] w fun e w' => e = .returned (.int .i64 (Ia.right i)) ∧ Below w.heap.size w w' := by
  obtain ⟨op, n⟩ := i
  unfold Ia.right
  dsimp only
  by_cases f0 : Ia.form op = 0
  · rw [if_pos f0]; exact isaright_none op n f0 w
  rw [if_neg f0]
  by_cases f4 : Ia.form op = 4
  · rw [if_pos f4]; exact isaright_push op n f4 w
  rw [if_neg f4]
  by_cases h8 : op = 8
  · subst h8
    have hm : Ia.most 8 = 2 := by decide
    simp only [hm]
    by_cases h1 : n < 1
    · rw [if_pos ⟨.inl trivial, .inl h1⟩]; exact isaright_8lo n h1 w
    · by_cases h2 : 2 < n
      · rw [if_pos ⟨.inl trivial, .inr h2⟩]; exact isaright_8hi n (by omega) h2 w
      · rw [if_neg (by omega), if_neg (by omega)]; exact isaright_8ok n (by omega) (by omega) w
  by_cases h9 : op = 9
  · subst h9
    have hm : Ia.most 9 = 16 := by decide
    simp only [hm]
    by_cases h1 : n < 1
    · rw [if_pos ⟨.inr trivial, .inl h1⟩]; exact isaright_9lo n h1 w
    · by_cases h2 : 16 < n
      · rw [if_pos ⟨.inr trivial, .inr h2⟩]; exact isaright_9hi n (by omega) h2 w
      · rw [if_neg (by omega), if_neg (by omega)]; exact isaright_9ok n (by omega) (by omega) w
  rw [if_neg (fun h => by rcases h.1 with h | h; exact h8 h; exact h9 h)]
  have b0 : ((Ia.form op : Int) == 0) = false := by simp; omega
  have b4 : ((Ia.form op : Int) == 4) = false := by simp; omega
  have b8 : (op == 8) = false := by simpa using h8
  have b9 : (op == 9) = false := by simpa using h9
  by_cases h1 : n < 0
  · rw [if_pos (.inl h1)]; exact isaright_olo op n _ _ rfl b0 b4 b8 b9 rfl h1 w
  · by_cases h2 : Ia.most op < n
    · rw [if_pos (.inr h2)]; exact isaright_ohi op n _ _ rfl b0 b4 b8 b9 rfl (by omega) h2 w
    · rw [if_neg (by omega)]; exact isaright_ook op n _ _ rfl b0 b4 b8 b9 rfl (by omega) (by omega) w
end Go.Proofs.Ytlfbpcjeohbfkaa
