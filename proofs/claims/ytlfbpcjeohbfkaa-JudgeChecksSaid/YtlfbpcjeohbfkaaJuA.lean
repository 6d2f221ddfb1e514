/-
  The small functions of judge and of its reference: frames, what an instruction takes, gives and touches, its ways.
-/
import Derived.Test.YtlfbpcjeohbfkaaJuPlain
import Derived.Test.YtlfbpcjeohbfkaaInsM
namespace Go.Proofs.Ytlfbpcjeohbfkaa
open Go.RowKit Mem

def frAgg (f : Ju.Fr) : Value := .agg #[.int .i64 f.sl, .int .i64 f.ol, .int .i64 f.nw, .int .i64 f.is, .int .i64 f.os]
theorem jwithin (n m : Int) (w : World) : Calls Try.prog 21 #[.int .i64 n, .int .i64 m] w fun e w' => e = .returned (.bool (decide (0 ≤ n ∧ n ≤ m))) ∧ w = w' := by
  by_cases h : 0 ≤ n
  · by_cases h2 : n ≤ m
    · rw [decide_eq_true (And.intro h h2)]
      go_enter Try.func21, Try.ntmps21
      go_wp2_with fail
      go_ret
      exact ⟨rfl, rfl⟩
    · rw [decide_eq_false (fun hh => h2 hh.2)]
      go_enter Try.func21, Try.ntmps21
      go_wp2_with fail
      go_ret
      exact ⟨rfl, rfl⟩
  · rw [decide_eq_false (fun hh => h hh.1)]
    go_enter Try.func21, Try.ntmps21
    go_wp2_with fail
    go_ret
    exact ⟨rfl, rfl⟩
def frErr (f : Ju.Fr) : Int := if Ju.okFr f = true then 0 else 1
set_option maxHeartbeats 4000000 in
theorem jframe (f : Ju.Fr) (w : World) : Calls Try.prog 12 #[frAgg f] w fun e w' => e = .returned (.int .i64 (frErr f)) ∧ Below w.heap.size w w' := by
  obtain ⟨sl, ol, nw, is, os⟩ := f
  unfold frErr Ju.okFr frAgg
  dsimp only
  have HR : Hid (∀ n m W, Calls Try.prog 21 #[.int .i64 n, .int .i64 m] W fun e w' => e = .returned (.bool (decide (0 ≤ n ∧ n ≤ m))) ∧ W = w') := jwithin

  generalize hb0 : decide (0 ≤ sl ∧ sl ≤ 24) = b0
  generalize hb1 : decide (0 ≤ ol ∧ ol ≤ 16) = b1
  generalize hb2 : decide (0 ≤ nw ∧ nw ≤ 16) = b2
  generalize hb3 : decide (0 ≤ is ∧ is ≤ 8) = b3
  generalize hb4 : decide (0 ≤ os ∧ os ≤ 8) = b4
  have HH0 := Lib.hid hb0
  have HH1 := Lib.hid hb1
  have HH2 := Lib.hid hb2
  have HH3 := Lib.hid hb3
  have HH4 := Lib.hid hb4
  clear hb0 hb1 hb2 hb3 hb4
  cases b0 with
  | false =>
    go_enter Try.func12, Try.ntmps12
    go_wp2_with fail
    refine (HR.out _ _ _).mono ?_
    rintro e w' ⟨rfl, rfl⟩
    rw [HH0.out]
    go_wp2_with fail
    go_ret
    exact ⟨rfl, (Below.refl _ _).alloc (Nat.le_refl _) _⟩
  | true =>
    cases b1 with
    | false =>
      go_enter Try.func12, Try.ntmps12
      go_wp2_with fail
      refine (HR.out _ _ _).mono ?_
      rintro e w' ⟨rfl, rfl⟩
      rw [HH0.out]
      go_wp2_with fail
      refine (HR.out _ _ _).mono ?_
      rintro e w' ⟨rfl, rfl⟩
      rw [HH1.out]
      go_wp2_with fail
      go_ret
      exact ⟨rfl, (Below.refl _ _).alloc (Nat.le_refl _) _⟩
    | true =>
      cases b2 with
      | false =>
        go_enter Try.func12, Try.ntmps12
        go_wp2_with fail
        refine (HR.out _ _ _).mono ?_
        rintro e w' ⟨rfl, rfl⟩
        rw [HH0.out]
        go_wp2_with fail
        refine (HR.out _ _ _).mono ?_
        rintro e w' ⟨rfl, rfl⟩
        rw [HH1.out]
        go_wp2_with fail
        refine (HR.out _ _ _).mono ?_
        rintro e w' ⟨rfl, rfl⟩
        rw [HH2.out]
        go_wp2_with fail
        go_ret
        exact ⟨rfl, (Below.refl _ _).alloc (Nat.le_refl _) _⟩
      | true =>
        cases b3 with
        | false =>
          go_enter Try.func12, Try.ntmps12
          go_wp2_with fail
          refine (HR.out _ _ _).mono ?_
          rintro e w' ⟨rfl, rfl⟩
          rw [HH0.out]
          go_wp2_with fail
          refine (HR.out _ _ _).mono ?_
          rintro e w' ⟨rfl, rfl⟩
          rw [HH1.out]
          go_wp2_with fail
          refine (HR.out _ _ _).mono ?_
          rintro e w' ⟨rfl, rfl⟩
          rw [HH2.out]
          go_wp2_with fail
          refine (HR.out _ _ _).mono ?_
          rintro e w' ⟨rfl, rfl⟩
          rw [HH3.out]
          go_wp2_with fail
          go_ret
          exact ⟨rfl, (Below.refl _ _).alloc (Nat.le_refl _) _⟩
        | true =>
          cases b4 with
          | false =>
            go_enter Try.func12, Try.ntmps12
            go_wp2_with fail
            refine (HR.out _ _ _).mono ?_
            rintro e w' ⟨rfl, rfl⟩
            rw [HH0.out]
            go_wp2_with fail
            refine (HR.out _ _ _).mono ?_
            rintro e w' ⟨rfl, rfl⟩
            rw [HH1.out]
            go_wp2_with fail
            refine (HR.out _ _ _).mono ?_
            rintro e w' ⟨rfl, rfl⟩
            rw [HH2.out]
            go_wp2_with fail
            refine (HR.out _ _ _).mono ?_
            rintro e w' ⟨rfl, rfl⟩
            rw [HH3.out]
            go_wp2_with fail
            refine (HR.out _ _ _).mono ?_
            rintro e w' ⟨rfl, rfl⟩
            rw [HH4.out]
            go_wp2_with fail
            go_ret
            exact ⟨rfl, (Below.refl _ _).alloc (Nat.le_refl _) _⟩
          | true =>
            go_enter Try.func12, Try.ntmps12
            go_wp2_with fail
            refine (HR.out _ _ _).mono ?_
            rintro e w' ⟨rfl, rfl⟩
            rw [HH0.out]
            go_wp2_with fail
            refine (HR.out _ _ _).mono ?_
            rintro e w' ⟨rfl, rfl⟩
            rw [HH1.out]
            go_wp2_with fail
            refine (HR.out _ _ _).mono ?_
            rintro e w' ⟨rfl, rfl⟩
            rw [HH2.out]
            go_wp2_with fail
            refine (HR.out _ _ _).mono ?_
            rintro e w' ⟨rfl, rfl⟩
            rw [HH3.out]
            go_wp2_with fail
            refine (HR.out _ _ _).mono ?_
            rintro e w' ⟨rfl, rfl⟩
            rw [HH4.out]
            go_wp2_with fail
            go_ret
            exact ⟨rfl, (Below.refl _ _).alloc (Nat.le_refl _) _⟩
set_option maxHeartbeats 4000000 in
theorem refframe (f : Ju.Fr) (w : World) : Calls Try.prog 13 #[frAgg f] w fun e w' => e = .returned (.int .i64 (frErr f)) ∧ Below w.heap.size w w' := by
  obtain ⟨sl, ol, nw, is, os⟩ := f
  have HF : Hid (∀ z, z = frErr ⟨sl, ol, nw, is, os⟩ → z = frErr ⟨sl, ol, nw, is, os⟩) := fun _ h => h
  obtain ⟨q, hq⟩ : ∃ q, q = frErr ⟨sl, ol, nw, is, os⟩ := ⟨_, rfl⟩
  rw [← hq]
  unfold frErr Ju.okFr at hq
  dsimp only at hq
  clear HF
  unfold frAgg
  dsimp only
  by_cases h0a : sl < 0
  · skip
    have e : q = 1 := by rw [hq, if_neg]; simp only [Bool.and_eq_true, decide_eq_true_eq]; omega
    clear hq
    subst e
    go_enter Try.func13, Try.ntmps13
    go_wp2_with fail
    go_ret
    exact ⟨rfl, (Below.refl _ _).alloc (Nat.le_refl _) _⟩
  by_cases h0b : sl > 24
  · skip
    have e : q = 1 := by rw [hq, if_neg]; simp only [Bool.and_eq_true, decide_eq_true_eq]; omega
    clear hq
    subst e
    go_enter Try.func13, Try.ntmps13
    go_wp2_with fail
    go_ret
    exact ⟨rfl, (Below.refl _ _).alloc (Nat.le_refl _) _⟩
  by_cases h1a : ol < 0
  · skip
    have e : q = 1 := by rw [hq, if_neg]; simp only [Bool.and_eq_true, decide_eq_true_eq]; omega
    clear hq
    subst e
    go_enter Try.func13, Try.ntmps13
    go_wp2_with fail
    go_ret
    exact ⟨rfl, (Below.refl _ _).alloc (Nat.le_refl _) _⟩
  by_cases h1b : ol > 16
  · skip
    have e : q = 1 := by rw [hq, if_neg]; simp only [Bool.and_eq_true, decide_eq_true_eq]; omega
    clear hq
    subst e
    go_enter Try.func13, Try.ntmps13
    go_wp2_with fail
    go_ret
    exact ⟨rfl, (Below.refl _ _).alloc (Nat.le_refl _) _⟩
  by_cases h2a : nw < 0
  · skip
    have e : q = 1 := by rw [hq, if_neg]; simp only [Bool.and_eq_true, decide_eq_true_eq]; omega
    clear hq
    subst e
    go_enter Try.func13, Try.ntmps13
    go_wp2_with fail
    go_ret
    exact ⟨rfl, (Below.refl _ _).alloc (Nat.le_refl _) _⟩
  by_cases h2b : nw > 16
  · skip
    have e : q = 1 := by rw [hq, if_neg]; simp only [Bool.and_eq_true, decide_eq_true_eq]; omega
    clear hq
    subst e
    go_enter Try.func13, Try.ntmps13
    go_wp2_with fail
    go_ret
    exact ⟨rfl, (Below.refl _ _).alloc (Nat.le_refl _) _⟩
  by_cases h3a : is < 0
  · skip
    have e : q = 1 := by rw [hq, if_neg]; simp only [Bool.and_eq_true, decide_eq_true_eq]; omega
    clear hq
    subst e
    go_enter Try.func13, Try.ntmps13
    go_wp2_with fail
    go_ret
    exact ⟨rfl, (Below.refl _ _).alloc (Nat.le_refl _) _⟩
  by_cases h3b : is > 8
  · skip
    have e : q = 1 := by rw [hq, if_neg]; simp only [Bool.and_eq_true, decide_eq_true_eq]; omega
    clear hq
    subst e
    go_enter Try.func13, Try.ntmps13
    go_wp2_with fail
    go_ret
    exact ⟨rfl, (Below.refl _ _).alloc (Nat.le_refl _) _⟩
  by_cases h4a : os < 0
  · skip
    have e : q = 1 := by rw [hq, if_neg]; simp only [Bool.and_eq_true, decide_eq_true_eq]; omega
    clear hq
    subst e
    go_enter Try.func13, Try.ntmps13
    go_wp2_with fail
    go_ret
    exact ⟨rfl, (Below.refl _ _).alloc (Nat.le_refl _) _⟩
  by_cases h4b : os > 8
  · skip
    have e : q = 1 := by rw [hq, if_neg]; simp only [Bool.and_eq_true, decide_eq_true_eq]; omega
    clear hq
    subst e
    go_enter Try.func13, Try.ntmps13
    go_wp2_with fail
    go_ret
    exact ⟨rfl, (Below.refl _ _).alloc (Nat.le_refl _) _⟩
  have e : q = 0 := by rw [hq, if_pos]; simp only [Bool.and_eq_true, decide_eq_true_eq]; omega
  clear hq
  subst e
  go_enter Try.func13, Try.ntmps13
  go_wp2_with fail
  go_ret
  exact ⟨rfl, (Below.refl _ _).alloc (Nat.le_refl _) _⟩
theorem set3row {W : World} {g : Nat} {t : TypeId} {c0 c1 c2 : Value} (h : W.heap[g]? = some (.cells #[c0, c1, c2] t (0, 0))) (u0 u1 u2 : Value) :
    (((W.setCell ⟨g, 0, none⟩ u0).setCell ⟨g, 1, none⟩ u1).setCell ⟨g, 2, none⟩ u2).heap[g]? = some (.cells #[u0, u1, u2] t (0, 0)) := by
  have h0 := heap_setCell_same _ g 0 _ t u0 h
  have h1 := heap_setCell_same _ g 1 _ t u1 h0
  have h2 := heap_setCell_same _ g 2 _ t u2 h1
  rw [h2]
  simp only [List.setIfInBounds_toArray, List.set_cons_zero, List.set_cons_succ]
def effAgg (op : Int) (f : Ju.Fr) : Value := .agg #[.int .i64 (Ju.takes op), .int .i64 (Ju.gives op), .int .i64 (Ju.room op f)]
theorem eff_none {op : Int} (h : ¬ (1 ≤ op ∧ op ≤ 11)) (f : Ju.Fr) : Ju.takes op = 0 ∧ Ju.gives op = 0 ∧ Ju.room op f = -1 := by
  unfold Ju.takes Ju.gives Ju.room
  refine ⟨?_, ?_, ?_⟩
  all_goals repeat (first | rw [if_neg (by omega)])
set_option maxRecDepth 10000 in
set_option maxHeartbeats 4000000 in
theorem refroom (op : Int) (f : Ju.Fr) (w : World) : Calls Try.prog 15 #[.int .i64 op, frAgg f] w fun e w' => e = .returned (.int .i64 (Ju.room op f)) ∧ Below w.heap.size w w' := by
  obtain ⟨sl, ol, nw, is, os⟩ := f
  unfold frAgg
  dsimp only
  by_cases h : 1 ≤ op ∧ op ≤ 11
  · rcases (show op = 1 ∨ op = 2 ∨ op = 3 ∨ op = 4 ∨ op = 5 ∨ op = 6 ∨ op = 7 ∨ op = 8 ∨ op = 9 ∨ op = 10 ∨ op = 11 by omega) with rfl | rfl | rfl | rfl | rfl | rfl | rfl | rfl | rfl | rfl | rfl
    all_goals
      go_enter Try.func15, Try.ntmps15
      go_wp2_with fail
      go_ret
      exact ⟨rfl, (Below.refl _ _).alloc (Nat.le_refl _) _⟩
  · obtain ⟨z1, z2, z3⟩ := eff_none h ⟨sl, ol, nw, is, os⟩
    rw [z3]
    have b1 : (op == 1) = false := by simp; omega
    have b2 : (op == 2) = false := by simp; omega
    have b3 : (op == 3) = false := by simp; omega
    have b4 : (op == 4) = false := by simp; omega
    have b5 : (op == 5) = false := by simp; omega
    have b6 : (op == 6) = false := by simp; omega
    have b7 : (op == 7) = false := by simp; omega
    have b8 : (op == 8) = false := by simp; omega
    have b9 : (op == 9) = false := by simp; omega
    have b10 : (op == 10) = false := by simp; omega
    have b11 : (op == 11) = false := by simp; omega
    clear h z1 z2 z3
    go_enter Try.func15, Try.ntmps15
    go_wp2_with fail
    go_ret
    exact ⟨rfl, (Below.refl _ _).alloc (Nat.le_refl _) _⟩
set_option maxRecDepth 10000 in
set_option maxHeartbeats 4000000 in
theorem reftakes (op : Int) (f : Ju.Fr) (w : World) : Calls Try.prog 16 #[.int .i64 op] w fun e w' => e = .returned (.int .i64 (Ju.takes op)) ∧ Below w.heap.size w w' := by
  obtain ⟨sl, ol, nw, is, os⟩ := f
  by_cases h : 1 ≤ op ∧ op ≤ 11
  · rcases (show op = 1 ∨ op = 2 ∨ op = 3 ∨ op = 4 ∨ op = 5 ∨ op = 6 ∨ op = 7 ∨ op = 8 ∨ op = 9 ∨ op = 10 ∨ op = 11 by omega) with rfl | rfl | rfl | rfl | rfl | rfl | rfl | rfl | rfl | rfl | rfl
    all_goals
      go_enter Try.func16, Try.ntmps16
      go_wp2_with fail
      go_ret
      exact ⟨rfl, Below.refl _ _⟩
  · obtain ⟨z1, z2, z3⟩ := eff_none h ⟨sl, ol, nw, is, os⟩
    rw [z1]
    have b1 : (op == 1) = false := by simp; omega
    have b2 : (op == 2) = false := by simp; omega
    have b3 : (op == 3) = false := by simp; omega
    have b4 : (op == 4) = false := by simp; omega
    have b5 : (op == 5) = false := by simp; omega
    have b6 : (op == 6) = false := by simp; omega
    have b7 : (op == 7) = false := by simp; omega
    have b8 : (op == 8) = false := by simp; omega
    have b9 : (op == 9) = false := by simp; omega
    have b10 : (op == 10) = false := by simp; omega
    have b11 : (op == 11) = false := by simp; omega
    clear h z1 z2 z3
    go_enter Try.func16, Try.ntmps16
    go_wp2_with fail
    go_ret
    exact ⟨rfl, Below.refl _ _⟩
set_option maxRecDepth 10000 in
set_option maxHeartbeats 4000000 in
theorem refgives (op : Int) (f : Ju.Fr) (w : World) : Calls Try.prog 17 #[.int .i64 op] w fun e w' => e = .returned (.int .i64 (Ju.gives op)) ∧ Below w.heap.size w w' := by
  obtain ⟨sl, ol, nw, is, os⟩ := f
  by_cases h : 1 ≤ op ∧ op ≤ 11
  · rcases (show op = 1 ∨ op = 2 ∨ op = 3 ∨ op = 4 ∨ op = 5 ∨ op = 6 ∨ op = 7 ∨ op = 8 ∨ op = 9 ∨ op = 10 ∨ op = 11 by omega) with rfl | rfl | rfl | rfl | rfl | rfl | rfl | rfl | rfl | rfl | rfl
    all_goals
      go_enter Try.func17, Try.ntmps17
      go_wp2_with fail
      go_ret
      exact ⟨rfl, Below.refl _ _⟩
  · obtain ⟨z1, z2, z3⟩ := eff_none h ⟨sl, ol, nw, is, os⟩
    rw [z2]
    have b1 : (op == 1) = false := by simp; omega
    have b2 : (op == 2) = false := by simp; omega
    have b3 : (op == 3) = false := by simp; omega
    have b4 : (op == 4) = false := by simp; omega
    have b5 : (op == 5) = false := by simp; omega
    have b6 : (op == 6) = false := by simp; omega
    have b7 : (op == 7) = false := by simp; omega
    have b8 : (op == 8) = false := by simp; omega
    have b9 : (op == 9) = false := by simp; omega
    have b10 : (op == 10) = false := by simp; omega
    have b11 : (op == 11) = false := by simp; omega
    clear h z1 z2 z3
    go_enter Try.func17, Try.ntmps17
    go_wp2_with fail
    go_ret
    exact ⟨rfl, Below.refl _ _⟩
end Go.Proofs.Ytlfbpcjeohbfkaa
