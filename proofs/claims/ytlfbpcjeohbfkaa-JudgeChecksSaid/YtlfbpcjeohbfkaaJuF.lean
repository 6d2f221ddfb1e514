/-
  What is told of a code, by the package judge.
-/
import Derived.Test.YtlfbpcjeohbfkaaJuE
namespace Go.Proofs.Ytlfbpcjeohbfkaa
open Go.RowKit Mem

/-- what is known of the places behind k instructions of n -/
def StOk (n k : Nat) (s : Ju.St) : Prop := (∀ t d f, s t = some (d, f) → 0 ≤ d ∧ d ≤ 16 ∧ 0 ≤ f ∧ f ≤ k) ∧ (k = n → (s n).isSome = true)
theorem come_ok {s s' : Ju.St} {t : Nat} {d f K : Int} (h : Ju.come s t d f = some s') (hs : ∀ t d f, s t = some (d, f) → 0 ≤ d ∧ d ≤ 16 ∧ 0 ≤ f ∧ f ≤ K) (hd : 0 ≤ d ∧ d ≤ 16) (hf : 0 ≤ f ∧ f ≤ K) :
    (∀ t d f, s' t = some (d, f) → 0 ≤ d ∧ d ≤ 16 ∧ 0 ≤ f ∧ f ≤ K) ∧ (s' t).isSome = true ∧ ∀ j, (s j).isSome = true → (s' j).isSome = true := by
  unfold Ju.come at h
  cases ht : s t with
  | none =>
    rw [ht] at h
    injection h with h
    subst h
    refine ⟨fun t' d' f' h' => ?_, by simp [Ju.upd], fun j hj => ?_⟩
    · unfold Ju.upd at h'
      split at h'
      · injection h' with h'; injection h' with h1 h2; subst h1 h2; exact ⟨hd.1, hd.2, hf.1, hf.2⟩
      · exact hs _ _ _ h'
    · unfold Ju.upd; split
      · rfl
      · exact hj
  | some v =>
    obtain ⟨d', f'⟩ := v
    rw [ht] at h
    dsimp only at h
    split at h
    · injection h with h
      subst h
      have h0 := hs _ _ _ ht
      refine ⟨fun t' d2 f2 h' => ?_, by simp [Ju.upd], fun j hj => ?_⟩
      · unfold Ju.upd at h'
        split at h'
        · injection h' with h'; injection h' with h1 h2
          have := Int.max_def f' f
          split at this <;> omega
        · exact hs _ _ _ h'
      · unfold Ju.upd; split
        · rfl
        · exact hj
    · cases h
theorem step_st {fr : Ju.Fr} {n k : Nat} {i : Ia.Ins} {s S : Ju.St} {D : Int} (h : Ju.step fr n i k s = (0, S, D)) (hs : StOk n k s) (_hk : k < n) : StOk n (k + 1) S ∧ 0 ≤ D ∧ D ≤ 16 := by
  obtain ⟨h1, h2⟩ := hs
  obtain ⟨t1, t2, t3, t4⟩ := takes_le i.op
  unfold Ju.step at h
  split at h
  · simp only [Prod.mk.injEq] at h; exact absurd h.1 (by assumption)
  · rename_i hr
    have hr0 : Ia.right i = 0 := by omega
    split at h
    · simp at h
    · cases hsk : s k with
      | none => rw [hsk] at h; simp at h
      | some v =>
        obtain ⟨d0, f0⟩ := v
        rw [hsk] at h
        dsimp only at h
        obtain ⟨b1, b2, b3, b4⟩ := h1 k d0 f0 hsk
        split at h
        · simp at h
        · rename_i hst
          split at h
          · simp at h
          · rename_i hj
            have hK : ∀ t d f, s t = some (d, f) → 0 ≤ d ∧ d ≤ 16 ∧ 0 ≤ f ∧ f ≤ ((k : Int) + 1) := fun t d f e => by have := h1 t d f e; omega
            split at h
            · simp at h
            · rename_i s1 hc1
              split at h
              · simp at h
              · rename_i s2 hc2
                simp only [Prod.mk.injEq, true_and] at h
                obtain ⟨rfl, rfl⟩ := h
                have hd : 0 ≤ d0 - Ju.takes i.op + Ju.gives i.op ∧ d0 - Ju.takes i.op + Ju.gives i.op ≤ 16 := by omega
                have hf : 0 ≤ f0 + 1 ∧ f0 + 1 ≤ (k : Int) + 1 := by omega
                have A : (∀ t d f, s1 t = some (d, f) → 0 ≤ d ∧ d ≤ 16 ∧ 0 ≤ f ∧ f ≤ ((k : Int) + 1)) ∧ (i.op ≠ 10 → (s1 (k + 1)).isSome = true) := by
                  split at hc1
                  · injection hc1 with hc1; subst hc1
                    exact ⟨hK, fun h => absurd (by assumption) h⟩
                  · obtain ⟨q1, q2, _⟩ := come_ok hc1 hK hd hf
                    exact ⟨q1, fun _ => q2⟩
                have C : (∀ t d f, s2 t = some (d, f) → 0 ≤ d ∧ d ≤ 16 ∧ 0 ≤ f ∧ f ≤ ((k : Int) + 1)) ∧ (k + 1 = n → (s2 n).isSome = true) := by
                  split at hc2
                  · rename_i hjj
                    obtain ⟨q1, q2, q3⟩ := come_ok hc2 A.1 hd hf
                    refine ⟨q1, fun e => ?_⟩
                    by_cases h10 : i.op = 10
                    · have hn := right_n hr0 hjj
                      have : Ju.to k i = n := by
                        have h5 : ¬ n < Ju.to k i := fun hh => hj ⟨hjj, hh⟩
                        unfold Ju.to at h5 ⊢
                        omega
                      rw [← this]; exact q2
                    · rw [← e]; exact q3 _ (A.2 h10)
                  · rename_i hjj
                    injection hc2 with hc2; subst hc2
                    refine ⟨A.1, fun e => ?_⟩
                    rw [← e]
                    exact A.2 (fun h10 => hjj (by rw [h10]; rfl))
                exact ⟨⟨fun t d f e => by have := C.1 t d f e; omega, C.2⟩, hd.1, hd.2⟩
theorem st_first (n : Nat) : StOk n 0 Ju.first := by
  refine ⟨fun t d f h => ?_, fun h => by subst h; rfl⟩
  unfold Ju.first at h
  split at h
  · injection h with h; injection h with h1 h2; subst h1 h2; omega
  · cases h
end Go.Proofs.Ytlfbpcjeohbfkaa
