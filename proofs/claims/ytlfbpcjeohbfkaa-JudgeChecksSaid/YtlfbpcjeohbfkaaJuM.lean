/-
  Two codes one behind the other, in plain Lean.
-/
import Derived.Test.YtlfbpcjeohbfkaaJuL
namespace Go.Proofs.Ytlfbpcjeohbfkaa
open Go.RowKit Mem

theorem step_more {f : Ju.Fr} {n N k : Nat} (hN : n ≤ N) {i : Ia.Ins} {s : Ju.St} (h0 : (Ju.step f n i k s).1 = 0) : Ju.step f N i k s = Ju.step f n i k s := by
  by_cases hr : Ia.right i = 0
  · by_cases hm : 0 ≤ Ju.room i.op f ∧ Ju.room i.op f ≤ i.n
    · rw [Ju.step_room hr hm] at h0; simp at h0
    · cases hs : s k with
      | none => rw [Ju.step_reach hr hm hs, Ju.step_reach hr hm hs]
      | some v =>
        obtain ⟨d0, f0⟩ := v
        by_cases h4 : d0 < Ju.takes i.op ∨ 16 < d0 - Ju.takes i.op + Ju.gives i.op
        · rw [Ju.step_stack hr hm hs h4, Ju.step_stack hr hm hs h4]
        · by_cases h5 : Ju.jumps i.op = true ∧ n < Ju.to k i
          · rw [Ju.step_jump hr hm hs h4 h5] at h0; simp at h0
          · have h6 : ¬ (Ju.jumps i.op = true ∧ N < Ju.to k i) := fun h => h5 ⟨h.1, by have := h.2; omega⟩
            unfold Ju.step
            simp only [hr, ne_eq, not_true_eq_false, if_false, if_neg hm, hs, if_neg h4, if_neg h5, if_neg h6]
  · rw [Ju.step_right hr, Ju.step_right hr]
/-- what a step without fault is made of -/
theorem step_parts {f : Ju.Fr} {n k : Nat} {i : Ia.Ins} {s S : Ju.St} {D : Int} (h : Ju.step f n i k s = (0, S, D)) :
    Ia.right i = 0 ∧ ¬ (0 ≤ Ju.room i.op f ∧ Ju.room i.op f ≤ i.n) ∧ ∃ d0 f0 s1, s k = some (d0, f0) ∧ ¬ (d0 < Ju.takes i.op ∨ 16 < d0 - Ju.takes i.op + Ju.gives i.op) ∧ ¬ (Ju.jumps i.op = true ∧ n < Ju.to k i) ∧
      (if i.op = 10 then some s else Ju.come s (k + 1) (d0 - Ju.takes i.op + Ju.gives i.op) (f0 + 1)) = some s1 ∧
      (if Ju.jumps i.op = true then Ju.come s1 (Ju.to k i) (d0 - Ju.takes i.op + Ju.gives i.op) (f0 + 1) else some s1) = some S ∧ D = d0 - Ju.takes i.op + Ju.gives i.op := by
  by_cases hr : Ia.right i = 0
  · by_cases hm : 0 ≤ Ju.room i.op f ∧ Ju.room i.op f ≤ i.n
    · rw [Ju.step_room hr hm] at h; simp at h
    · cases hs : s k with
      | none => rw [Ju.step_reach hr hm hs] at h; simp at h
      | some v =>
        obtain ⟨d0, f0⟩ := v
        by_cases h4 : d0 < Ju.takes i.op ∨ 16 < d0 - Ju.takes i.op + Ju.gives i.op
        · rw [Ju.step_stack hr hm hs h4] at h; simp at h
        · by_cases h5 : Ju.jumps i.op = true ∧ n < Ju.to k i
          · rw [Ju.step_jump hr hm hs h4 h5] at h; simp at h
          · cases h6 : (if i.op = 10 then some s else Ju.come s (k + 1) (d0 - Ju.takes i.op + Ju.gives i.op) (f0 + 1)) with
            | none => rw [Ju.step_c1 hr hm hs h4 h5 h6] at h; simp at h
            | some s1 =>
              cases h7 : (if Ju.jumps i.op = true then Ju.come s1 (Ju.to k i) (d0 - Ju.takes i.op + Ju.gives i.op) (f0 + 1) else some s1) with
              | none => rw [Ju.step_c2 hr hm hs h4 h5 h6 h7] at h; simp at h
              | some s2 =>
                rw [Ju.step_ok hr hm hs h4 h5 h6 h7] at h
                simp only [Prod.mk.injEq, true_and] at h
                obtain ⟨rfl, rfl⟩ := h
                exact ⟨hr, hm, d0, f0, s1, rfl, h4, h5, h6, h7, rfl⟩
  · rw [Ju.step_right hr] at h; simp only [Prod.mk.injEq] at h; exact absurd h.1 hr
theorem come_far {s S : Ju.St} {t : Nat} {d f : Int} (h : Ju.come s t d f = some S) (j : Nat) (hj : j ≠ t) : S j = s j := by
  unfold Ju.come at h
  split at h
  · injection h with h; subst h; unfold Ju.upd; rw [if_neg hj]
  · split at h
    · injection h with h; subst h; unfold Ju.upd; rw [if_neg hj]
    · cases h
theorem step_beyond {f : Ju.Fr} {n k : Nat} {i : Ia.Ins} {s S : Ju.St} {D : Int} (h : Ju.step f n i k s = (0, S, D)) (hk : k < n) (hb : ∀ j, n < j → s j = none) : ∀ j, n < j → S j = none := by
  obtain ⟨hr, hm, d0, f0, s1, hs, h4, h5, h6, h7, rfl⟩ := step_parts h
  intro j hj
  have e1 : s1 j = none := by
    split at h6
    · injection h6 with h6; subst h6; exact hb j hj
    · rw [come_far h6 j (by omega)]; exact hb j hj
  split at h7
  · rename_i hjj
    rw [come_far h7 j (fun e => h5 ⟨hjj, by omega⟩)]; exact e1
  · injection h7 with h7; subst h7; exact e1
theorem run_append {f : Ju.Fr} {n N : Nat} (hN : n ≤ N) : ∀ (l : List Ia.Ins) (k : Nat) (s : Ju.St) (top : Int), k + l.length = n → StOk n k s → (∀ j, n < j → s j = none) → (Ju.run f n l k s top).er = 0 →
    ∃ S T, S n = some (0, (Ju.run f n l k s top).fu) ∧ T = (Ju.run f n l k s top).dp ∧ (∀ j, n < j → S j = none) ∧ ∀ r, Ju.run f N (l ++ r) k s top = Ju.run f N r n S T
  | [], k, s, top, hk, hst, hb, he => by
    obtain rfl : k = n := by simpa using hk
    obtain ⟨v, hv⟩ := Option.isSome_iff_exists.1 (hst.2 rfl)
    obtain ⟨d, fu⟩ := v
    unfold Ju.run at he ⊢
    rw [hv] at he ⊢
    dsimp only at he ⊢
    by_cases hd : d = 0
    · subst hd
      rw [if_pos rfl]
      exact ⟨s, top, hv, rfl, hb, fun r => rfl⟩
    · rw [if_neg hd] at he; simp at he
  | i :: l, k, s, top, hk, hst, hb, he => by
    have hk' : k < n := by simp at hk; omega
    rw [Ju.run] at he ⊢
    by_cases hs : (Ju.step f n i k s).1 = 0
    · rw [if_neg (fun e => e hs)] at he ⊢
      have hst' : Ju.step f n i k s = (0, (Ju.step f n i k s).2.1, (Ju.step f n i k s).2.2) := by rw [← hs]
      have A := step_st hst' hst hk'
      have C := step_beyond hst' hk' hb
      obtain ⟨S, T, h1, h2, h3, h4⟩ := run_append hN l (k + 1) _ (max top (Ju.step f n i k s).2.2) (by simp at hk; omega) A.1 C he
      refine ⟨S, T, h1, h2, h3, fun r => ?_⟩
      rw [List.cons_append, Ju.run, step_more hN hs, if_neg (fun e => e hs)]
      exact h4 r
    · rw [if_pos hs] at he; exact absurd he hs
def Shift (n : Nat) (fx : Int) (s S : Ju.St) : Prop := ∀ j, S (n + j) = (s j).map fun v => (v.1, v.2 + fx)
theorem come_shift {n t : Nat} {fx d f : Int} {s S r : Ju.St} (hR : Shift n fx s S) (h : Ju.come s t d f = some r) : ∃ R, Ju.come S (n + t) d (f + fx) = some R ∧ Shift n fx r R := by
  have hSt := hR t
  unfold Ju.come at h ⊢
  cases hs : s t with
  | none =>
    rw [hs] at h hSt
    injection h with h
    subst h
    rw [hSt]
    refine ⟨_, rfl, fun j => ?_⟩
    unfold Ju.upd
    by_cases hj : j = t
    · subst hj; simp
    · rw [if_neg (by omega), if_neg hj]; exact hR j
  | some v =>
    obtain ⟨d', f'⟩ := v
    rw [hs] at h hSt
    rw [hSt]
    dsimp only [Option.map_some] at h ⊢
    by_cases hd : d' = d
    · subst hd
      rw [if_pos rfl] at h ⊢
      injection h with h
      subst h
      refine ⟨_, rfl, fun j => ?_⟩
      unfold Ju.upd
      by_cases hj : j = t
      · subst hj
        have e : max (f' + fx) (f + fx) = max f' f + fx := by rw [Int.max_def, Int.max_def]; split <;> split <;> omega
        simp [e]
      · rw [if_neg (by omega), if_neg hj]; exact hR j
    · rw [if_neg hd] at h; cases h
theorem step_shift {f : Ju.Fr} {n m k : Nat} {fx : Int} {i : Ia.Ins} {s S r : Ju.St} {D : Int} (hR : Shift n fx s S) (h : Ju.step f m i k s = (0, r, D)) : ∃ R, Ju.step f (n + m) i (n + k) S = (0, R, D) ∧ Shift n fx r R := by
  obtain ⟨hr, hm, d0, f0, s1, hs, h4, h5, h6, h7, rfl⟩ := step_parts h
  have hSk : S (n + k) = some (d0, f0 + fx) := by rw [hR k, hs]; rfl
  have hto : Ju.to (n + k) i = n + Ju.to k i := by unfold Ju.to; omega
  have h5' : ¬ (Ju.jumps i.op = true ∧ n + m < Ju.to (n + k) i) := fun hh => h5 ⟨hh.1, by have := hh.2; omega⟩
  have ef : f0 + fx + 1 = f0 + 1 + fx := by omega
  obtain ⟨S1, hS1, hR1⟩ : ∃ S1, (if i.op = 10 then some S else Ju.come S (n + k + 1) (d0 - Ju.takes i.op + Ju.gives i.op) (f0 + fx + 1)) = some S1 ∧ Shift n fx s1 S1 := by
    by_cases h10 : i.op = 10
    · rw [if_pos h10] at h6 ⊢
      injection h6 with h6
      subst h6
      exact ⟨S, rfl, hR⟩
    · rw [if_neg h10] at h6 ⊢
      rw [ef]
      exact come_shift hR h6
  obtain ⟨S2, hS2, hR2⟩ : ∃ S2, (if Ju.jumps i.op = true then Ju.come S1 (Ju.to (n + k) i) (d0 - Ju.takes i.op + Ju.gives i.op) (f0 + fx + 1) else some S1) = some S2 ∧ Shift n fx r S2 := by
    by_cases hj : Ju.jumps i.op = true
    · rw [if_pos hj] at h7 ⊢
      rw [ef, hto]
      exact come_shift hR1 h7
    · rw [if_neg hj] at h7 ⊢
      injection h7 with h7
      subst h7
      exact ⟨S1, rfl, hR1⟩
  exact ⟨S2, Ju.step_ok hr hm hSk h4 h5' hS1 hS2, hR2⟩
theorem run_shift {f : Ju.Fr} {n m : Nat} {fx dx : Int} : ∀ (l : List Ia.Ins) (k : Nat) (s S : Ju.St) (top : Int), k + l.length = m → StOk m k s → Shift n fx s S → (Ju.run f m l k s top).er = 0 →
    Ju.run f (n + m) l (n + k) S (max dx top) = ⟨max dx (Ju.run f m l k s top).dp, fx + (Ju.run f m l k s top).fu, 0, 0⟩
  | [], k, s, S, top, hk, hst, hR, he => by
    obtain rfl : k = m := by simpa using hk
    obtain ⟨v, hv⟩ := Option.isSome_iff_exists.1 (hst.2 rfl)
    obtain ⟨d, fu⟩ := v
    have hSk : S (n + k) = some (d, fu + fx) := by rw [hR k, hv]; rfl
    unfold Ju.run at he ⊢
    rw [hv] at he
    rw [hv, hSk]
    dsimp only at he ⊢
    by_cases hd : d = 0
    · subst hd
      rw [if_pos rfl, if_pos rfl, Int.add_comm fu fx]
    · rw [if_neg hd] at he; simp at he
  | i :: l, k, s, S, top, hk, hst, hR, he => by
    rw [Ju.run] at he
    by_cases hs : (Ju.step f m i k s).1 = 0
    · rw [if_neg (fun e => e hs)] at he
      have hst' : Ju.step f m i k s = (0, (Ju.step f m i k s).2.1, (Ju.step f m i k s).2.2) := by rw [← hs]
      have A := step_st hst' hst (by simp at hk; omega)
      obtain ⟨R, hR1, hR2⟩ := step_shift hR hst'
      have ih := run_shift (dx := dx) l (k + 1) _ R (max top (Ju.step f m i k s).2.2) (by simp at hk; omega) A.1 hR2 he
      rw [Ju.run, hR1, if_neg (fun e => e rfl)]
      dsimp only
      rw [Int.max_assoc, Nat.add_assoc, ih]
      rw [Ju.run, if_neg (fun e => e hs)]
    · rw [if_pos hs] at he; exact absurd he hs
theorem run_top {f : Ju.Fr} {n : Nat} : ∀ (l : List Ia.Ins) (k : Nat) (s : Ju.St) (top : Int), k + l.length = n → StOk n k s → 0 ≤ top → (Ju.run f n l k s top).er = 0 → 0 ≤ (Ju.run f n l k s top).dp ∧ (Ju.run f n l k s top).at_ = 0
  | [], k, s, top, hk, hst, h0, he => by
    obtain rfl : k = n := by simpa using hk
    obtain ⟨v, hv⟩ := Option.isSome_iff_exists.1 (hst.2 rfl)
    obtain ⟨d, fu⟩ := v
    unfold Ju.run at he ⊢
    rw [hv] at he ⊢
    dsimp only at he ⊢
    by_cases hd : d = 0
    · subst hd
      rw [if_pos rfl]
      exact ⟨h0, rfl⟩
    · rw [if_neg hd] at he; simp at he
  | i :: l, k, s, top, hk, hst, h0, he => by
    rw [Ju.run] at he ⊢
    by_cases hs : (Ju.step f n i k s).1 = 0
    · rw [if_neg (fun e => e hs)] at he ⊢
      have hst' : Ju.step f n i k s = (0, (Ju.step f n i k s).2.1, (Ju.step f n i k s).2.2) := by rw [← hs]
      have A := step_st hst' hst (by simp at hk; omega)
      exact run_top l (k + 1) _ _ (by simp at hk; omega) A.1 (by have := Int.le_max_left top (Ju.step f n i k s).2.2; omega) he
    · rw [if_pos hs] at he; exact absurd he hs
theorem run_bound {f : Ju.Fr} {n : Nat} : ∀ (l : List Ia.Ins) (k : Nat) (s : Ju.St) (top : Int), k + l.length = n → StOk n k s → 0 ≤ top ∧ top ≤ 16 → (Ju.run f n l k s top).er = 0 → 0 ≤ (Ju.run f n l k s top).dp ∧ (Ju.run f n l k s top).dp ≤ 16 ∧ 0 ≤ (Ju.run f n l k s top).fu ∧ (Ju.run f n l k s top).fu ≤ n
  | [], k, s, top, hk, hst, h0, he => by
    obtain rfl : k = n := by simpa using hk
    obtain ⟨v, hv⟩ := Option.isSome_iff_exists.1 (hst.2 rfl)
    obtain ⟨d, fu⟩ := v
    have hb := hst.1 _ _ _ hv
    unfold Ju.run at he ⊢
    rw [hv] at he ⊢
    dsimp only at he ⊢
    by_cases hd : d = 0
    · subst hd
      rw [if_pos rfl]
      exact ⟨h0.1, h0.2, hb.2.2.1, hb.2.2.2⟩
    · rw [if_neg hd] at he; simp at he
  | i :: l, k, s, top, hk, hst, h0, he => by
    rw [Ju.run] at he ⊢
    by_cases hs : (Ju.step f n i k s).1 = 0
    · rw [if_neg (fun e => e hs)] at he ⊢
      have hst' : Ju.step f n i k s = (0, (Ju.step f n i k s).2.1, (Ju.step f n i k s).2.2) := by rw [← hs]
      have A := step_st hst' hst (by simp at hk; omega)
      exact run_bound l (k + 1) _ _ (by simp at hk; omega) A.1 (by have := Int.max_def top (Ju.step f n i k s).2.2; split at this <;> omega) he
    · rw [if_pos hs] at he; exact absurd he hs
theorem check_bound {f : Ju.Fr} {l : List Ia.Ins} (h : (Ju.check f l).er = 0) : 0 ≤ (Ju.check f l).dp ∧ (Ju.check f l).dp ≤ 16 ∧ 0 ≤ (Ju.check f l).fu ∧ (Ju.check f l).fu ≤ l.length := by
  obtain ⟨h1, h2⟩ := check_ok h
  rw [check_run h1 h2] at h ⊢
  exact run_bound l 0 Ju.first 0 (by omega) (st_first _) (by omega) h
/-- two codes that are accepted are accepted one behind the other -/
theorem check_join {f : Ju.Fr} {a b : List Ia.Ins} (ha : (Ju.check f a).er = 0) (hb : (Ju.check f b).er = 0) (hl : a.length ≤ 300) (hl2 : b.length ≤ 300) :
    Ju.check f (a ++ b) = ⟨max (Ju.check f a).dp (Ju.check f b).dp, (Ju.check f a).fu + (Ju.check f b).fu, 0, 0⟩ := by
  obtain ⟨h1, h2⟩ := check_ok ha
  obtain ⟨_, h3⟩ := check_ok hb
  have e1 := check_run h1 h2
  have e2 := check_run h1 h3
  have e3 := check_run (l := a ++ b) h1 (by rw [List.length_append]; omega)
  rw [e1] at ha ⊢
  rw [e2] at hb ⊢
  rw [e3, List.length_append]
  have hfb : ∀ j, a.length < j → Ju.first j = none := fun j hj => by unfold Ju.first; rw [if_neg (by omega)]
  obtain ⟨S, T, q1, q2, q3, q4⟩ := run_append (N := a.length + b.length) (by omega) a 0 Ju.first 0 (by omega) (st_first _) hfb ha
  have hR : Shift a.length (Ju.run f a.length a 0 Ju.first 0).fu Ju.first S := by
    intro j
    by_cases hj : j = 0
    · subst hj; rw [Nat.add_zero, q1]; simp [Ju.first]
    · rw [q3 _ (by omega)]; unfold Ju.first; rw [if_neg hj]; rfl
  have hT := run_top a 0 Ju.first 0 (by omega) (st_first _) (Int.le_refl _) ha
  have := run_shift (f := f) (n := a.length) (m := b.length) (dx := T) b 0 Ju.first S 0 (by omega) (st_first _) hR hb
  rw [q4 b]
  have e0 : max T 0 = T := Int.max_eq_left (by rw [q2]; exact hT.1)
  rw [e0, Nat.add_zero] at this
  rw [this, q2]
end Go.Proofs.Ytlfbpcjeohbfkaa
