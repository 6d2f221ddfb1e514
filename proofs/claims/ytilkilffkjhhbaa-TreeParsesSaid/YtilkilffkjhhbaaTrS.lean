/-
  Which fields an expression has: numbered and shape of the reference.
-/
import Derived.Test.YtilkilffkjhhbaaTrC
namespace Go.Proofs.Ytilkilffkjhhbaa
set_option maxRecDepth 20000
set_option linter.unusedVariables false
open Go.RowKit Tr

theorem numbered_any (k : Int) (w : World) : Calls Try.prog 110 #[.int .i64 k] w fun e w' => e = .returned (.bool (k == 1 || k == 2 || k == 4 || k == 5)) ∧ w = w' := by
  have HB : ∀ i : Int, (k == i) = true ∨ (k == i) = false := fun i => by cases (k == i) <;> simp
  rcases HB 1 with h1 | h1
  · rw [h1]; go_enter Try.func110, Try.ntmps110; go_wp2; go_ret; exact ⟨rfl, rfl⟩
  rcases HB 2 with h2 | h2
  · rw [h1, h2]; go_enter Try.func110, Try.ntmps110; go_wp2; go_ret; exact ⟨rfl, rfl⟩
  rcases HB 4 with h3 | h3
  · rw [h1, h2, h3]; go_enter Try.func110, Try.ntmps110; go_wp2; go_ret; exact ⟨rfl, rfl⟩
  rcases HB 5 with h4 | h4
  · rw [h1, h2, h3, h4]; go_enter Try.func110, Try.ntmps110; go_wp2; go_ret; exact ⟨rfl, rfl⟩
  · rw [h1, h2, h3, h4]; go_enter Try.func110, Try.ntmps110; go_wp2; go_ret; exact ⟨rfl, rfl⟩

set_option maxHeartbeats 4000000 in
theorem refshape1 (n : Int) (m : Lx.Bs) (s : List Ex) (A : Option Addr) (cap : Nat) (w : World) (hn : -2147483648 ≤ n ∧ n ≤ 2147483647) (hm : m.length ≤ maxLen) :
    Calls Try.prog 95 #[.agg #[.int .i64 1, .int .i32 n, .string ⟨m.toArray⟩, .slice A s.length cap]] w fun e w' => e = .returned (.bool (Tr.shape 1 n m s.length)) ∧ Below w.heap.size w w' := by
  have HM := Lib.hid hm
  obtain ⟨hn1, hn2⟩ := hn
  clear hm
  obtain ⟨r, hr⟩ : ∃ r, r = Tr.shape 1 n m s.length := ⟨_, rfl⟩
  rw [← hr]
  have hsh : r = (s.length == 0 && decide (0 ≤ n) && decide (n ≤ 2147483647) && (if false = true then Lx.isName m else m == [])) := hr
  clear hr
  have HW0 : Hid (∀ V, Below w.heap.size w (w.alloc V)) := fun V => (Below.refl w.heap.size w).alloc (Nat.le_refl _) V
  have HNUM : Hid (((1 : Int) == 1 || (1 : Int) == 2 || (1 : Int) == 4 || (1 : Int) == 5) = true) := (by decide : ((1 : Int) == 1 || (1 : Int) == 2 || (1 : Int) == 4 || (1 : Int) == 5) = true)
  rcases Decidable.em (s.length = 0) with hl | hl
  rotate_left
  · obtain rfl : r = false := by rw [hsh]; simp [hl]
    have g1 : ((s.length : Int) == 0) = false := beq_eq_false_iff_ne.2 (by omega)
    clear hsh hl
    rcases Decidable.em (0 ≤ n) with a1 | a1
    all_goals rcases Decidable.em (n ≤ 2147483647) with a2 | a2
    all_goals first | (exfalso; omega) | skip
    all_goals
      go_enter Try.func95, Try.ntmps95
      go_wp2_with (go_at_call 110; refine (numbered_any _ _).mono ?_; rintro e w' ⟨rfl, rfl⟩; rw [HNUM.out])
      go_ret
      exact ⟨rfl, HW0.out _⟩
  have g1 : ((s.length : Int) == 0) = true := beq_iff_eq.2 (by omega)
  have hl0 : (s.length == 0) = true := by simp [hl]
  rw [hl0, Bool.true_and] at hsh
  clear hl hl0
  rcases Decidable.em (0 ≤ n ∧ n ≤ 2147483647) with a1 | a1
  · obtain ⟨a1, a2⟩ := a1
    rcases Decidable.em (m = []) with hm0 | hm0
    · obtain rfl : r = true := by rw [hsh, hm0]; simp; try omega
      subst hm0
      clear hsh
      go_enter Try.func95, Try.ntmps95
      go_wp2_with (go_at_call 110; refine (numbered_any _ _).mono ?_; rintro e w' ⟨rfl, rfl⟩; rw [HNUM.out])
      go_ret
      exact ⟨rfl, HW0.out _⟩
    · obtain rfl : r = false := by rw [hsh]; simp [hm0]
      have e1 : m.isEmpty = false := by simpa using hm0
      clear hsh hm0
      go_enter Try.func95, Try.ntmps95
      go_wp2_with (go_at_call 110; refine (numbered_any _ _).mono ?_; rintro e w' ⟨rfl, rfl⟩; rw [HNUM.out])
      go_ret
      exact ⟨rfl, HW0.out _⟩
  · obtain rfl : r = false := by rw [hsh]; simp; omega
    clear hsh
    have a2 : ¬ 0 ≤ n := by omega
    have b1 : (n == 0) = false := by simp; omega
    clear a1
    go_enter Try.func95, Try.ntmps95
    go_wp2_with (go_at_call 110; refine (numbered_any _ _).mono ?_; rintro e w' ⟨rfl, rfl⟩; rw [HNUM.out])
    go_ret
    exact ⟨rfl, HW0.out _⟩
set_option maxHeartbeats 4000000 in
theorem refshape2 (n : Int) (m : Lx.Bs) (s : List Ex) (A : Option Addr) (cap : Nat) (w : World) (hn : -2147483648 ≤ n ∧ n ≤ 2147483647) (hm : m.length ≤ maxLen) :
    Calls Try.prog 95 #[.agg #[.int .i64 2, .int .i32 n, .string ⟨m.toArray⟩, .slice A s.length cap]] w fun e w' => e = .returned (.bool (Tr.shape 2 n m s.length)) ∧ Below w.heap.size w w' := by
  have HM := Lib.hid hm
  obtain ⟨hn1, hn2⟩ := hn
  clear hm
  obtain ⟨r, hr⟩ : ∃ r, r = Tr.shape 2 n m s.length := ⟨_, rfl⟩
  rw [← hr]
  have hsh : r = (s.length == 0 && decide (0 ≤ n) && decide (n ≤ 1) && (if false = true then Lx.isName m else m == [])) := hr
  clear hr
  have HW0 : Hid (∀ V, Below w.heap.size w (w.alloc V)) := fun V => (Below.refl w.heap.size w).alloc (Nat.le_refl _) V
  have HNUM : Hid (((2 : Int) == 1 || (2 : Int) == 2 || (2 : Int) == 4 || (2 : Int) == 5) = true) := (by decide : ((2 : Int) == 1 || (2 : Int) == 2 || (2 : Int) == 4 || (2 : Int) == 5) = true)
  rcases Decidable.em (s.length = 0) with hl | hl
  rotate_left
  · obtain rfl : r = false := by rw [hsh]; simp [hl]
    have g1 : ((s.length : Int) == 0) = false := beq_eq_false_iff_ne.2 (by omega)
    clear hsh hl
    rcases Decidable.em (n = 0) with a1 | a1
    all_goals rcases Decidable.em (n = 1) with a2 | a2
    all_goals first | (have b1 : (n == 0) = true := by simp [a1]) | (have b1 : (n == 0) = false := by simp [a1])
    all_goals first | (have b2 : (n == 1) = true := by simp [a2]) | (have b2 : (n == 1) = false := by simp [a2])
    all_goals clear a1 a2
    all_goals
      go_enter Try.func95, Try.ntmps95
      go_wp2_with (go_at_call 110; refine (numbered_any _ _).mono ?_; rintro e w' ⟨rfl, rfl⟩; rw [HNUM.out])
      go_ret
      exact ⟨rfl, HW0.out _⟩
  have g1 : ((s.length : Int) == 0) = true := beq_iff_eq.2 (by omega)
  have hl0 : (s.length == 0) = true := by simp [hl]
  rw [hl0, Bool.true_and] at hsh
  clear hl hl0
  rcases Decidable.em (n = 0) with a1 | a1
  · subst a1
    rcases Decidable.em (m = []) with hm0 | hm0
    · obtain rfl : r = true := by rw [hsh, hm0]; simp; try omega
      subst hm0
      clear hsh
      go_enter Try.func95, Try.ntmps95
      go_wp2_with (go_at_call 110; refine (numbered_any _ _).mono ?_; rintro e w' ⟨rfl, rfl⟩; rw [HNUM.out])
      go_ret
      exact ⟨rfl, HW0.out _⟩
    · obtain rfl : r = false := by rw [hsh]; simp [hm0]
      have e1 : m.isEmpty = false := by simpa using hm0
      clear hsh hm0
      go_enter Try.func95, Try.ntmps95
      go_wp2_with (go_at_call 110; refine (numbered_any _ _).mono ?_; rintro e w' ⟨rfl, rfl⟩; rw [HNUM.out])
      go_ret
      exact ⟨rfl, HW0.out _⟩
  rcases Decidable.em (n = 1) with a2 | a2
  · subst a2
    rcases Decidable.em (m = []) with hm0 | hm0
    · obtain rfl : r = true := by rw [hsh, hm0]; simp; try omega
      subst hm0
      clear hsh
      go_enter Try.func95, Try.ntmps95
      go_wp2_with (go_at_call 110; refine (numbered_any _ _).mono ?_; rintro e w' ⟨rfl, rfl⟩; rw [HNUM.out])
      go_ret
      exact ⟨rfl, HW0.out _⟩
    · obtain rfl : r = false := by rw [hsh]; simp [hm0]
      have e1 : m.isEmpty = false := by simpa using hm0
      clear hsh hm0
      go_enter Try.func95, Try.ntmps95
      go_wp2_with (go_at_call 110; refine (numbered_any _ _).mono ?_; rintro e w' ⟨rfl, rfl⟩; rw [HNUM.out])
      go_ret
      exact ⟨rfl, HW0.out _⟩
  · obtain rfl : r = false := by rw [hsh]; simp; omega
    have b1 : (n == 0) = false := by simp [a1]
    have b2 : (n == 1) = false := by simp [a2]
    clear hsh a1 a2
    go_enter Try.func95, Try.ntmps95
    go_wp2_with (go_at_call 110; refine (numbered_any _ _).mono ?_; rintro e w' ⟨rfl, rfl⟩; rw [HNUM.out])
    go_ret
    exact ⟨rfl, HW0.out _⟩
set_option maxHeartbeats 4000000 in
theorem refshape3 (n : Int) (m : Lx.Bs) (s : List Ex) (A : Option Addr) (cap : Nat) (w : World) (hn : -2147483648 ≤ n ∧ n ≤ 2147483647) (hm : m.length ≤ maxLen) :
    Calls Try.prog 95 #[.agg #[.int .i64 3, .int .i32 n, .string ⟨m.toArray⟩, .slice A s.length cap]] w fun e w' => e = .returned (.bool (Tr.shape 3 n m s.length)) ∧ Below w.heap.size w w' := by
  have HM := Lib.hid hm
  obtain ⟨hn1, hn2⟩ := hn
  clear hm
  obtain ⟨r, hr⟩ : ∃ r, r = Tr.shape 3 n m s.length := ⟨_, rfl⟩
  rw [← hr]
  have hsh : r = (s.length == 0 && decide (0 ≤ n) && decide (n ≤ 0) && (if true = true then Lx.isName m else m == [])) := hr
  clear hr
  have HW0 : Hid (∀ V, Below w.heap.size w (w.alloc V)) := fun V => (Below.refl w.heap.size w).alloc (Nat.le_refl _) V
  have HNUM : Hid (((3 : Int) == 1 || (3 : Int) == 2 || (3 : Int) == 4 || (3 : Int) == 5) = false) := (by decide : ((3 : Int) == 1 || (3 : Int) == 2 || (3 : Int) == 4 || (3 : Int) == 5) = false)
  rcases Decidable.em (s.length = 0) with hl | hl
  rotate_left
  · obtain rfl : r = false := by rw [hsh]; simp [hl]
    have g1 : ((s.length : Int) == 0) = false := beq_eq_false_iff_ne.2 (by omega)
    clear hsh hl
    all_goals
      go_enter Try.func95, Try.ntmps95
      go_wp2_with (go_at_call 110; refine (numbered_any _ _).mono ?_; rintro e w' ⟨rfl, rfl⟩; rw [HNUM.out])
      go_ret
      exact ⟨rfl, HW0.out _⟩
  have g1 : ((s.length : Int) == 0) = true := beq_iff_eq.2 (by omega)
  have hl0 : (s.length == 0) = true := by simp [hl]
  rw [hl0, Bool.true_and] at hsh
  clear hl hl0
  rcases Decidable.em (n = 0) with a1 | a1
  · subst a1
    have HR : Hid (r = Lx.isName m) := by unfold RowKit.Hid; rw [hsh]; simp; try omega
    clear hsh
    have HNM : Hid (∀ W, Calls Try.prog 81 #[.string ⟨m.toArray⟩] W fun e w' => e = .returned (.bool r) ∧ Below W.heap.size W w') := fun W => by rw [HR.out]; exact refname m HM.out W
    cases r
    all_goals
      go_enter Try.func95, Try.ntmps95
      go_wp2_with (go_at_call 110; refine (numbered_any _ _).mono ?_; rintro e w' ⟨rfl, rfl⟩; rw [HNUM.out])
      refine (HNM.out _).mono ?_
      rintro e w1 ⟨rfl, hb1⟩
      have HB := Lib.hid ((HW0.out _).trans (hb1.mono (by simp)))
      clear hb1
      go_wp2_with fail
      go_ret
      exact ⟨rfl, HB.out⟩
  · obtain rfl : r = false := by rw [hsh]; simp; omega
    have b1 : (n == 0) = false := by simp [a1]
    clear hsh a1
    go_enter Try.func95, Try.ntmps95
    go_wp2_with (go_at_call 110; refine (numbered_any _ _).mono ?_; rintro e w' ⟨rfl, rfl⟩; rw [HNUM.out])
    go_ret
    exact ⟨rfl, HW0.out _⟩
set_option maxHeartbeats 4000000 in
theorem refshape4 (n : Int) (m : Lx.Bs) (s : List Ex) (A : Option Addr) (cap : Nat) (w : World) (hn : -2147483648 ≤ n ∧ n ≤ 2147483647) (hm : m.length ≤ maxLen) :
    Calls Try.prog 95 #[.agg #[.int .i64 4, .int .i32 n, .string ⟨m.toArray⟩, .slice A s.length cap]] w fun e w' => e = .returned (.bool (Tr.shape 4 n m s.length)) ∧ Below w.heap.size w w' := by
  have HM := Lib.hid hm
  obtain ⟨hn1, hn2⟩ := hn
  clear hm
  obtain ⟨r, hr⟩ : ∃ r, r = Tr.shape 4 n m s.length := ⟨_, rfl⟩
  rw [← hr]
  have hsh : r = (s.length == 1 && decide (1 ≤ n) && decide (n ≤ 2) && (if false = true then Lx.isName m else m == [])) := hr
  clear hr
  have HW0 : Hid (∀ V, Below w.heap.size w (w.alloc V)) := fun V => (Below.refl w.heap.size w).alloc (Nat.le_refl _) V
  have HNUM : Hid (((4 : Int) == 1 || (4 : Int) == 2 || (4 : Int) == 4 || (4 : Int) == 5) = true) := (by decide : ((4 : Int) == 1 || (4 : Int) == 2 || (4 : Int) == 4 || (4 : Int) == 5) = true)
  rcases Decidable.em (s.length = 1) with hl | hl
  rotate_left
  · obtain rfl : r = false := by rw [hsh]; simp [hl]
    have g1 : ((s.length : Int) == 1) = false := beq_eq_false_iff_ne.2 (by omega)
    clear hsh hl
    rcases Decidable.em (1 ≤ n) with a1 | a1
    all_goals rcases Decidable.em (n ≤ 2) with a2 | a2
    all_goals first | (exfalso; omega) | skip
    all_goals
      go_enter Try.func95, Try.ntmps95
      go_wp2_with (go_at_call 110; refine (numbered_any _ _).mono ?_; rintro e w' ⟨rfl, rfl⟩; rw [HNUM.out])
      go_ret
      exact ⟨rfl, HW0.out _⟩
  have g1 : ((s.length : Int) == 1) = true := beq_iff_eq.2 (by omega)
  have hl0 : (s.length == 1) = true := by simp [hl]
  rw [hl0, Bool.true_and] at hsh
  clear hl hl0
  rcases Decidable.em (1 ≤ n ∧ n ≤ 2) with a1 | a1
  · obtain ⟨a1, a2⟩ := a1
    rcases Decidable.em (m = []) with hm0 | hm0
    · obtain rfl : r = true := by rw [hsh, hm0]; simp; try omega
      subst hm0
      clear hsh
      go_enter Try.func95, Try.ntmps95
      go_wp2_with (go_at_call 110; refine (numbered_any _ _).mono ?_; rintro e w' ⟨rfl, rfl⟩; rw [HNUM.out])
      go_ret
      exact ⟨rfl, HW0.out _⟩
    · obtain rfl : r = false := by rw [hsh]; simp [hm0]
      have e1 : m.isEmpty = false := by simpa using hm0
      clear hsh hm0
      go_enter Try.func95, Try.ntmps95
      go_wp2_with (go_at_call 110; refine (numbered_any _ _).mono ?_; rintro e w' ⟨rfl, rfl⟩; rw [HNUM.out])
      go_ret
      exact ⟨rfl, HW0.out _⟩
  · obtain rfl : r = false := by rw [hsh]; simp; omega
    clear hsh
    rcases Decidable.em (n = 0) with a2 | a2
    · subst a2
      go_enter Try.func95, Try.ntmps95
      go_wp2_with (go_at_call 110; refine (numbered_any _ _).mono ?_; rintro e w' ⟨rfl, rfl⟩; rw [HNUM.out])
      go_ret
      exact ⟨rfl, HW0.out _⟩
    have b1 : (n == 0) = false := by simp [a2]
    rcases Decidable.em (1 ≤ n) with a3 | a3
    · have a4 : ¬ n ≤ 2 := by omega
      clear a1 a2
      go_enter Try.func95, Try.ntmps95
      go_wp2_with (go_at_call 110; refine (numbered_any _ _).mono ?_; rintro e w' ⟨rfl, rfl⟩; rw [HNUM.out])
      go_ret
      exact ⟨rfl, HW0.out _⟩
    · clear a1 a2
      go_enter Try.func95, Try.ntmps95
      go_wp2_with (go_at_call 110; refine (numbered_any _ _).mono ?_; rintro e w' ⟨rfl, rfl⟩; rw [HNUM.out])
      go_ret
      exact ⟨rfl, HW0.out _⟩
set_option maxHeartbeats 4000000 in
theorem refshape5 (n : Int) (m : Lx.Bs) (s : List Ex) (A : Option Addr) (cap : Nat) (w : World) (hn : -2147483648 ≤ n ∧ n ≤ 2147483647) (hm : m.length ≤ maxLen) :
    Calls Try.prog 95 #[.agg #[.int .i64 5, .int .i32 n, .string ⟨m.toArray⟩, .slice A s.length cap]] w fun e w' => e = .returned (.bool (Tr.shape 5 n m s.length)) ∧ Below w.heap.size w w' := by
  have HM := Lib.hid hm
  obtain ⟨hn1, hn2⟩ := hn
  clear hm
  obtain ⟨r, hr⟩ : ∃ r, r = Tr.shape 5 n m s.length := ⟨_, rfl⟩
  rw [← hr]
  have hsh : r = (s.length == 2 && decide (1 ≤ n) && decide (n ≤ 16) && (if false = true then Lx.isName m else m == [])) := hr
  clear hr
  have HW0 : Hid (∀ V, Below w.heap.size w (w.alloc V)) := fun V => (Below.refl w.heap.size w).alloc (Nat.le_refl _) V
  have HNUM : Hid (((5 : Int) == 1 || (5 : Int) == 2 || (5 : Int) == 4 || (5 : Int) == 5) = true) := (by decide : ((5 : Int) == 1 || (5 : Int) == 2 || (5 : Int) == 4 || (5 : Int) == 5) = true)
  rcases Decidable.em (s.length = 2) with hl | hl
  rotate_left
  · obtain rfl : r = false := by rw [hsh]; simp [hl]
    have g1 : ((s.length : Int) == 2) = false := beq_eq_false_iff_ne.2 (by omega)
    clear hsh hl
    rcases Decidable.em (1 ≤ n) with a1 | a1
    all_goals rcases Decidable.em (n ≤ 16) with a2 | a2
    all_goals first | (exfalso; omega) | skip
    all_goals
      go_enter Try.func95, Try.ntmps95
      go_wp2_with (go_at_call 110; refine (numbered_any _ _).mono ?_; rintro e w' ⟨rfl, rfl⟩; rw [HNUM.out])
      go_ret
      exact ⟨rfl, HW0.out _⟩
  have g1 : ((s.length : Int) == 2) = true := beq_iff_eq.2 (by omega)
  have hl0 : (s.length == 2) = true := by simp [hl]
  rw [hl0, Bool.true_and] at hsh
  clear hl hl0
  rcases Decidable.em (1 ≤ n ∧ n ≤ 16) with a1 | a1
  · obtain ⟨a1, a2⟩ := a1
    rcases Decidable.em (m = []) with hm0 | hm0
    · obtain rfl : r = true := by rw [hsh, hm0]; simp; try omega
      subst hm0
      clear hsh
      go_enter Try.func95, Try.ntmps95
      go_wp2_with (go_at_call 110; refine (numbered_any _ _).mono ?_; rintro e w' ⟨rfl, rfl⟩; rw [HNUM.out])
      go_ret
      exact ⟨rfl, HW0.out _⟩
    · obtain rfl : r = false := by rw [hsh]; simp [hm0]
      have e1 : m.isEmpty = false := by simpa using hm0
      clear hsh hm0
      go_enter Try.func95, Try.ntmps95
      go_wp2_with (go_at_call 110; refine (numbered_any _ _).mono ?_; rintro e w' ⟨rfl, rfl⟩; rw [HNUM.out])
      go_ret
      exact ⟨rfl, HW0.out _⟩
  · obtain rfl : r = false := by rw [hsh]; simp; omega
    clear hsh
    rcases Decidable.em (n = 0) with a2 | a2
    · subst a2
      go_enter Try.func95, Try.ntmps95
      go_wp2_with (go_at_call 110; refine (numbered_any _ _).mono ?_; rintro e w' ⟨rfl, rfl⟩; rw [HNUM.out])
      go_ret
      exact ⟨rfl, HW0.out _⟩
    have b1 : (n == 0) = false := by simp [a2]
    rcases Decidable.em (1 ≤ n) with a3 | a3
    · have a4 : ¬ n ≤ 16 := by omega
      clear a1 a2
      go_enter Try.func95, Try.ntmps95
      go_wp2_with (go_at_call 110; refine (numbered_any _ _).mono ?_; rintro e w' ⟨rfl, rfl⟩; rw [HNUM.out])
      go_ret
      exact ⟨rfl, HW0.out _⟩
    · clear a1 a2
      go_enter Try.func95, Try.ntmps95
      go_wp2_with (go_at_call 110; refine (numbered_any _ _).mono ?_; rintro e w' ⟨rfl, rfl⟩; rw [HNUM.out])
      go_ret
      exact ⟨rfl, HW0.out _⟩
set_option maxHeartbeats 4000000 in
theorem refshape6 (n : Int) (m : Lx.Bs) (s : List Ex) (A : Option Addr) (cap : Nat) (w : World) (hn : -2147483648 ≤ n ∧ n ≤ 2147483647) (hm : m.length ≤ maxLen) :
    Calls Try.prog 95 #[.agg #[.int .i64 6, .int .i32 n, .string ⟨m.toArray⟩, .slice A s.length cap]] w fun e w' => e = .returned (.bool (Tr.shape 6 n m s.length)) ∧ Below w.heap.size w w' := by
  have HM := Lib.hid hm
  obtain ⟨hn1, hn2⟩ := hn
  clear hm
  obtain ⟨r, hr⟩ : ∃ r, r = Tr.shape 6 n m s.length := ⟨_, rfl⟩
  rw [← hr]
  have hsh : r = (s.length == 3 && decide (0 ≤ n) && decide (n ≤ 0) && (if false = true then Lx.isName m else m == [])) := hr
  clear hr
  have HW0 : Hid (∀ V, Below w.heap.size w (w.alloc V)) := fun V => (Below.refl w.heap.size w).alloc (Nat.le_refl _) V
  have HNUM : Hid (((6 : Int) == 1 || (6 : Int) == 2 || (6 : Int) == 4 || (6 : Int) == 5) = false) := (by decide : ((6 : Int) == 1 || (6 : Int) == 2 || (6 : Int) == 4 || (6 : Int) == 5) = false)
  rcases Decidable.em (s.length = 3) with hl | hl
  rotate_left
  · obtain rfl : r = false := by rw [hsh]; simp [hl]
    have g1 : ((s.length : Int) == 3) = false := beq_eq_false_iff_ne.2 (by omega)
    clear hsh hl
    all_goals
      go_enter Try.func95, Try.ntmps95
      go_wp2_with (go_at_call 110; refine (numbered_any _ _).mono ?_; rintro e w' ⟨rfl, rfl⟩; rw [HNUM.out])
      go_ret
      exact ⟨rfl, HW0.out _⟩
  have g1 : ((s.length : Int) == 3) = true := beq_iff_eq.2 (by omega)
  have hl0 : (s.length == 3) = true := by simp [hl]
  rw [hl0, Bool.true_and] at hsh
  clear hl hl0
  rcases Decidable.em (n = 0) with a1 | a1
  · subst a1
    rcases Decidable.em (m = []) with hm0 | hm0
    · obtain rfl : r = true := by rw [hsh, hm0]; simp; try omega
      subst hm0
      clear hsh
      go_enter Try.func95, Try.ntmps95
      go_wp2_with (go_at_call 110; refine (numbered_any _ _).mono ?_; rintro e w' ⟨rfl, rfl⟩; rw [HNUM.out])
      go_ret
      exact ⟨rfl, HW0.out _⟩
    · obtain rfl : r = false := by rw [hsh]; simp [hm0]
      have e1 : m.isEmpty = false := by simpa using hm0
      clear hsh hm0
      go_enter Try.func95, Try.ntmps95
      go_wp2_with (go_at_call 110; refine (numbered_any _ _).mono ?_; rintro e w' ⟨rfl, rfl⟩; rw [HNUM.out])
      go_ret
      exact ⟨rfl, HW0.out _⟩
  · obtain rfl : r = false := by rw [hsh]; simp; omega
    have b1 : (n == 0) = false := by simp [a1]
    clear hsh a1
    go_enter Try.func95, Try.ntmps95
    go_wp2_with (go_at_call 110; refine (numbered_any _ _).mono ?_; rintro e w' ⟨rfl, rfl⟩; rw [HNUM.out])
    go_ret
    exact ⟨rfl, HW0.out _⟩
set_option maxHeartbeats 4000000 in
theorem refshape7 (n : Int) (m : Lx.Bs) (s : List Ex) (A : Option Addr) (cap : Nat) (w : World) (hn : -2147483648 ≤ n ∧ n ≤ 2147483647) (hm : m.length ≤ maxLen) :
    Calls Try.prog 95 #[.agg #[.int .i64 7, .int .i32 n, .string ⟨m.toArray⟩, .slice A s.length cap]] w fun e w' => e = .returned (.bool (Tr.shape 7 n m s.length)) ∧ Below w.heap.size w w' := by
  have HM := Lib.hid hm
  obtain ⟨hn1, hn2⟩ := hn
  clear hm
  obtain ⟨r, hr⟩ : ∃ r, r = Tr.shape 7 n m s.length := ⟨_, rfl⟩
  rw [← hr]
  have hsh : r = (s.length == 2 && decide (0 ≤ n) && decide (n ≤ 0) && (if false = true then Lx.isName m else m == [])) := hr
  clear hr
  have HW0 : Hid (∀ V, Below w.heap.size w (w.alloc V)) := fun V => (Below.refl w.heap.size w).alloc (Nat.le_refl _) V
  have HNUM : Hid (((7 : Int) == 1 || (7 : Int) == 2 || (7 : Int) == 4 || (7 : Int) == 5) = false) := (by decide : ((7 : Int) == 1 || (7 : Int) == 2 || (7 : Int) == 4 || (7 : Int) == 5) = false)
  rcases Decidable.em (s.length = 2) with hl | hl
  rotate_left
  · obtain rfl : r = false := by rw [hsh]; simp [hl]
    have g1 : ((s.length : Int) == 2) = false := beq_eq_false_iff_ne.2 (by omega)
    clear hsh hl
    all_goals
      go_enter Try.func95, Try.ntmps95
      go_wp2_with (go_at_call 110; refine (numbered_any _ _).mono ?_; rintro e w' ⟨rfl, rfl⟩; rw [HNUM.out])
      go_ret
      exact ⟨rfl, HW0.out _⟩
  have g1 : ((s.length : Int) == 2) = true := beq_iff_eq.2 (by omega)
  have hl0 : (s.length == 2) = true := by simp [hl]
  rw [hl0, Bool.true_and] at hsh
  clear hl hl0
  rcases Decidable.em (n = 0) with a1 | a1
  · subst a1
    rcases Decidable.em (m = []) with hm0 | hm0
    · obtain rfl : r = true := by rw [hsh, hm0]; simp; try omega
      subst hm0
      clear hsh
      go_enter Try.func95, Try.ntmps95
      go_wp2_with (go_at_call 110; refine (numbered_any _ _).mono ?_; rintro e w' ⟨rfl, rfl⟩; rw [HNUM.out])
      go_ret
      exact ⟨rfl, HW0.out _⟩
    · obtain rfl : r = false := by rw [hsh]; simp [hm0]
      have e1 : m.isEmpty = false := by simpa using hm0
      clear hsh hm0
      go_enter Try.func95, Try.ntmps95
      go_wp2_with (go_at_call 110; refine (numbered_any _ _).mono ?_; rintro e w' ⟨rfl, rfl⟩; rw [HNUM.out])
      go_ret
      exact ⟨rfl, HW0.out _⟩
  · obtain rfl : r = false := by rw [hsh]; simp; omega
    have b1 : (n == 0) = false := by simp [a1]
    clear hsh a1
    go_enter Try.func95, Try.ntmps95
    go_wp2_with (go_at_call 110; refine (numbered_any _ _).mono ?_; rintro e w' ⟨rfl, rfl⟩; rw [HNUM.out])
    go_ret
    exact ⟨rfl, HW0.out _⟩
set_option maxHeartbeats 4000000 in
theorem refshape8 (n : Int) (m : Lx.Bs) (s : List Ex) (A : Option Addr) (cap : Nat) (w : World) (hn : -2147483648 ≤ n ∧ n ≤ 2147483647) (hm : m.length ≤ maxLen) :
    Calls Try.prog 95 #[.agg #[.int .i64 8, .int .i32 n, .string ⟨m.toArray⟩, .slice A s.length cap]] w fun e w' => e = .returned (.bool (Tr.shape 8 n m s.length)) ∧ Below w.heap.size w w' := by
  have HM := Lib.hid hm
  obtain ⟨hn1, hn2⟩ := hn
  clear hm
  obtain ⟨r, hr⟩ : ∃ r, r = Tr.shape 8 n m s.length := ⟨_, rfl⟩
  rw [← hr]
  have hsh : r = (s.length == 1 && decide (0 ≤ n) && decide (n ≤ 0) && (if true = true then Lx.isName m else m == [])) := hr
  clear hr
  have HW0 : Hid (∀ V, Below w.heap.size w (w.alloc V)) := fun V => (Below.refl w.heap.size w).alloc (Nat.le_refl _) V
  have HNUM : Hid (((8 : Int) == 1 || (8 : Int) == 2 || (8 : Int) == 4 || (8 : Int) == 5) = false) := (by decide : ((8 : Int) == 1 || (8 : Int) == 2 || (8 : Int) == 4 || (8 : Int) == 5) = false)
  rcases Decidable.em (s.length = 1) with hl | hl
  rotate_left
  · obtain rfl : r = false := by rw [hsh]; simp [hl]
    have g1 : ((s.length : Int) == 1) = false := beq_eq_false_iff_ne.2 (by omega)
    clear hsh hl
    all_goals
      go_enter Try.func95, Try.ntmps95
      go_wp2_with (go_at_call 110; refine (numbered_any _ _).mono ?_; rintro e w' ⟨rfl, rfl⟩; rw [HNUM.out])
      go_ret
      exact ⟨rfl, HW0.out _⟩
  have g1 : ((s.length : Int) == 1) = true := beq_iff_eq.2 (by omega)
  have hl0 : (s.length == 1) = true := by simp [hl]
  rw [hl0, Bool.true_and] at hsh
  clear hl hl0
  rcases Decidable.em (n = 0) with a1 | a1
  · subst a1
    have HR : Hid (r = Lx.isName m) := by unfold RowKit.Hid; rw [hsh]; simp; try omega
    clear hsh
    have HNM : Hid (∀ W, Calls Try.prog 81 #[.string ⟨m.toArray⟩] W fun e w' => e = .returned (.bool r) ∧ Below W.heap.size W w') := fun W => by rw [HR.out]; exact refname m HM.out W
    cases r
    all_goals
      go_enter Try.func95, Try.ntmps95
      go_wp2_with (go_at_call 110; refine (numbered_any _ _).mono ?_; rintro e w' ⟨rfl, rfl⟩; rw [HNUM.out])
      refine (HNM.out _).mono ?_
      rintro e w1 ⟨rfl, hb1⟩
      have HB := Lib.hid ((HW0.out _).trans (hb1.mono (by simp)))
      clear hb1
      go_wp2_with fail
      go_ret
      exact ⟨rfl, HB.out⟩
  · obtain rfl : r = false := by rw [hsh]; simp; omega
    have b1 : (n == 0) = false := by simp [a1]
    clear hsh a1
    go_enter Try.func95, Try.ntmps95
    go_wp2_with (go_at_call 110; refine (numbered_any _ _).mono ?_; rintro e w' ⟨rfl, rfl⟩; rw [HNUM.out])
    go_ret
    exact ⟨rfl, HW0.out _⟩
set_option maxHeartbeats 4000000 in
theorem refshape9 (n : Int) (m : Lx.Bs) (s : List Ex) (A : Option Addr) (cap : Nat) (w : World) (hn : -2147483648 ≤ n ∧ n ≤ 2147483647) (hm : m.length ≤ maxLen) :
    Calls Try.prog 95 #[.agg #[.int .i64 9, .int .i32 n, .string ⟨m.toArray⟩, .slice A s.length cap]] w fun e w' => e = .returned (.bool (Tr.shape 9 n m s.length)) ∧ Below w.heap.size w w' := by
  have HM := Lib.hid hm
  obtain ⟨hn1, hn2⟩ := hn
  clear hm
  obtain ⟨r, hr⟩ : ∃ r, r = Tr.shape 9 n m s.length := ⟨_, rfl⟩
  rw [← hr]
  have hsh : r = (s.length == 1 && decide (0 ≤ n) && decide (n ≤ 0) && (if true = true then Lx.isName m else m == [])) := hr
  clear hr
  have HW0 : Hid (∀ V, Below w.heap.size w (w.alloc V)) := fun V => (Below.refl w.heap.size w).alloc (Nat.le_refl _) V
  have HNUM : Hid (((9 : Int) == 1 || (9 : Int) == 2 || (9 : Int) == 4 || (9 : Int) == 5) = false) := (by decide : ((9 : Int) == 1 || (9 : Int) == 2 || (9 : Int) == 4 || (9 : Int) == 5) = false)
  rcases Decidable.em (s.length = 1) with hl | hl
  rotate_left
  · obtain rfl : r = false := by rw [hsh]; simp [hl]
    have g1 : ((s.length : Int) == 1) = false := beq_eq_false_iff_ne.2 (by omega)
    clear hsh hl
    all_goals
      go_enter Try.func95, Try.ntmps95
      go_wp2_with (go_at_call 110; refine (numbered_any _ _).mono ?_; rintro e w' ⟨rfl, rfl⟩; rw [HNUM.out])
      go_ret
      exact ⟨rfl, HW0.out _⟩
  have g1 : ((s.length : Int) == 1) = true := beq_iff_eq.2 (by omega)
  have hl0 : (s.length == 1) = true := by simp [hl]
  rw [hl0, Bool.true_and] at hsh
  clear hl hl0
  rcases Decidable.em (n = 0) with a1 | a1
  · subst a1
    have HR : Hid (r = Lx.isName m) := by unfold RowKit.Hid; rw [hsh]; simp; try omega
    clear hsh
    have HNM : Hid (∀ W, Calls Try.prog 81 #[.string ⟨m.toArray⟩] W fun e w' => e = .returned (.bool r) ∧ Below W.heap.size W w') := fun W => by rw [HR.out]; exact refname m HM.out W
    cases r
    all_goals
      go_enter Try.func95, Try.ntmps95
      go_wp2_with (go_at_call 110; refine (numbered_any _ _).mono ?_; rintro e w' ⟨rfl, rfl⟩; rw [HNUM.out])
      refine (HNM.out _).mono ?_
      rintro e w1 ⟨rfl, hb1⟩
      have HB := Lib.hid ((HW0.out _).trans (hb1.mono (by simp)))
      clear hb1
      go_wp2_with fail
      go_ret
      exact ⟨rfl, HB.out⟩
  · obtain rfl : r = false := by rw [hsh]; simp; omega
    have b1 : (n == 0) = false := by simp [a1]
    clear hsh a1
    go_enter Try.func95, Try.ntmps95
    go_wp2_with (go_at_call 110; refine (numbered_any _ _).mono ?_; rintro e w' ⟨rfl, rfl⟩; rw [HNUM.out])
    go_ret
    exact ⟨rfl, HW0.out _⟩
set_option maxHeartbeats 4000000 in
theorem refshape10 (n : Int) (m : Lx.Bs) (s : List Ex) (A : Option Addr) (cap : Nat) (w : World) (hn : -2147483648 ≤ n ∧ n ≤ 2147483647) (hm : m.length ≤ maxLen) :
    Calls Try.prog 95 #[.agg #[.int .i64 10, .int .i32 n, .string ⟨m.toArray⟩, .slice A s.length cap]] w fun e w' => e = .returned (.bool (Tr.shape 10 n m s.length)) ∧ Below w.heap.size w w' := by
  have HM := Lib.hid hm
  obtain ⟨hn1, hn2⟩ := hn
  clear hm
  obtain ⟨r, hr⟩ : ∃ r, r = Tr.shape 10 n m s.length := ⟨_, rfl⟩
  rw [← hr]
  have hsh : r = (s.length == 2 && decide (0 ≤ n) && decide (n ≤ 0) && (if true = true then Lx.isName m else m == [])) := hr
  clear hr
  have HW0 : Hid (∀ V, Below w.heap.size w (w.alloc V)) := fun V => (Below.refl w.heap.size w).alloc (Nat.le_refl _) V
  have HNUM : Hid (((10 : Int) == 1 || (10 : Int) == 2 || (10 : Int) == 4 || (10 : Int) == 5) = false) := (by decide : ((10 : Int) == 1 || (10 : Int) == 2 || (10 : Int) == 4 || (10 : Int) == 5) = false)
  rcases Decidable.em (s.length = 2) with hl | hl
  rotate_left
  · obtain rfl : r = false := by rw [hsh]; simp [hl]
    have g1 : ((s.length : Int) == 2) = false := beq_eq_false_iff_ne.2 (by omega)
    clear hsh hl
    all_goals
      go_enter Try.func95, Try.ntmps95
      go_wp2_with (go_at_call 110; refine (numbered_any _ _).mono ?_; rintro e w' ⟨rfl, rfl⟩; rw [HNUM.out])
      go_ret
      exact ⟨rfl, HW0.out _⟩
  have g1 : ((s.length : Int) == 2) = true := beq_iff_eq.2 (by omega)
  have hl0 : (s.length == 2) = true := by simp [hl]
  rw [hl0, Bool.true_and] at hsh
  clear hl hl0
  rcases Decidable.em (n = 0) with a1 | a1
  · subst a1
    have HR : Hid (r = Lx.isName m) := by unfold RowKit.Hid; rw [hsh]; simp; try omega
    clear hsh
    have HNM : Hid (∀ W, Calls Try.prog 81 #[.string ⟨m.toArray⟩] W fun e w' => e = .returned (.bool r) ∧ Below W.heap.size W w') := fun W => by rw [HR.out]; exact refname m HM.out W
    cases r
    all_goals
      go_enter Try.func95, Try.ntmps95
      go_wp2_with (go_at_call 110; refine (numbered_any _ _).mono ?_; rintro e w' ⟨rfl, rfl⟩; rw [HNUM.out])
      refine (HNM.out _).mono ?_
      rintro e w1 ⟨rfl, hb1⟩
      have HB := Lib.hid ((HW0.out _).trans (hb1.mono (by simp)))
      clear hb1
      go_wp2_with fail
      go_ret
      exact ⟨rfl, HB.out⟩
  · obtain rfl : r = false := by rw [hsh]; simp; omega
    have b1 : (n == 0) = false := by simp [a1]
    clear hsh a1
    go_enter Try.func95, Try.ntmps95
    go_wp2_with (go_at_call 110; refine (numbered_any _ _).mono ?_; rintro e w' ⟨rfl, rfl⟩; rw [HNUM.out])
    go_ret
    exact ⟨rfl, HW0.out _⟩
theorem refshape_any (k n : Int) (m : Lx.Bs) (s : List Ex) (A : Option Addr) (cap : Nat) (w : World) (hn : -2147483648 ≤ n ∧ n ≤ 2147483647) (hm : m.length ≤ maxLen) :
    Calls Try.prog 95 #[.agg #[.int .i64 k, .int .i32 n, .string ⟨m.toArray⟩, .slice A s.length cap]] w fun e w' => e = .returned (.bool (Tr.shape k n m s.length)) ∧ Below w.heap.size w w' := by
  rcases kinds k with h | ⟨hf, h1, h2, h3, h4, h5, h6, h7, h8, h9, ha⟩
  · rcases h with rfl | rfl | rfl | rfl | rfl | rfl | rfl | rfl | rfl | rfl
    · exact refshape1 n m s A cap w hn hm
    · exact refshape2 n m s A cap w hn hm
    · exact refshape3 n m s A cap w hn hm
    · exact refshape4 n m s A cap w hn hm
    · exact refshape5 n m s A cap w hn hm
    · exact refshape6 n m s A cap w hn hm
    · exact refshape7 n m s A cap w hn hm
    · exact refshape8 n m s A cap w hn hm
    · exact refshape9 n m s A cap w hn hm
    · exact refshape10 n m s A cap w hn hm
  · have hR : Tr.shape k n m s.length = false := by unfold Tr.shape; rw [hf]
    rw [hR]
    clear hf hR hn hm
    go_enter Try.func95, Try.ntmps95
    go_wp2_with fail
    go_ret
    exact ⟨rfl, (Below.refl w.heap.size w).alloc (Nat.le_refl _) _⟩
end Go.Proofs.Ytilkilffkjhhbaa
