/-
  The ways through a code that is accepted, in plain Lean.
-/
import Derived.Test.YtlfbpcjeohbfkaaJuM
namespace Go.Proofs.Ytlfbpcjeohbfkaa
open Go.RowKit Mem

/-- the ways from the first k instructions: to each place a way leads from an elder one, and with just one step more -/
structure Flow (f : Ju.Fr) (l : List Ia.Ins) (k : Nat) (s : Ju.St) (top : Int) : Prop where
  zero : s 0 = some (0, 0)
  edge : ∀ j (_ : j < k) (hl : j < l.length), ∃ d0 f0, s j = some (d0, f0) ∧ Ia.right (l[j]'hl) = 0 ∧ ¬ (0 ≤ Ju.room (l[j]'hl).op f ∧ Ju.room (l[j]'hl).op f ≤ (l[j]'hl).n) ∧ Ju.takes (l[j]'hl).op ≤ d0 ∧
    d0 - Ju.takes (l[j]'hl).op + Ju.gives (l[j]'hl).op ≤ top ∧ (Ju.jumps (l[j]'hl).op = true → Ju.to j (l[j]'hl) ≤ l.length) ∧
    ((l[j]'hl).op ≠ 10 → ∃ f1, s (j + 1) = some (d0 - Ju.takes (l[j]'hl).op + Ju.gives (l[j]'hl).op, f1) ∧ f0 + 1 ≤ f1) ∧
    (Ju.jumps (l[j]'hl).op = true → ∃ f1, s (Ju.to j (l[j]'hl)) = some (d0 - Ju.takes (l[j]'hl).op + Ju.gives (l[j]'hl).op, f1) ∧ f0 + 1 ≤ f1)
  pred : ∀ t d f', s t = some (d, f') → (t = 0 ∧ f' = 0) ∨ ∃ j d0 f0, j < k ∧ ∃ hl : j < l.length, s j = some (d0, f0) ∧ f' = f0 + 1 ∧ (((l[j]'hl).op ≠ 10 ∧ t = j + 1) ∨ (Ju.jumps (l[j]'hl).op = true ∧ t = Ju.to j (l[j]'hl)))
theorem come_mono {s S : Ju.St} {t : Nat} {d f : Int} (h : Ju.come s t d f = some S) :
    (∀ j d' f', s j = some (d', f') → ∃ f1, S j = some (d', f1) ∧ f' ≤ f1) ∧ (∃ f1, S t = some (d, f1) ∧ f ≤ f1) ∧ (∀ j d' f', S j = some (d', f') → s j = some (d', f') ∨ (j = t ∧ f' = f)) := by
  unfold Ju.come at h
  cases hs : s t with
  | none =>
    rw [hs] at h
    injection h with h
    subst h
    refine ⟨fun j d' f' hj => ⟨f', ?_, Int.le_refl _⟩, ⟨f, by simp [Ju.upd], Int.le_refl _⟩, fun j d' f' hj => ?_⟩
    · unfold Ju.upd
      rw [if_neg (fun e => by subst e; rw [hs] at hj; cases hj)]; exact hj
    · unfold Ju.upd at hj
      split at hj
      · rename_i e; injection hj with hj; injection hj with h1 h2; exact .inr ⟨e, h2.symm⟩
      · exact .inl hj
  | some v =>
    obtain ⟨d', f'⟩ := v
    rw [hs] at h
    dsimp only at h
    split at h
    · rename_i hd
      subst hd
      injection h with h
      subst h
      have hm := Int.max_def f' f
      refine ⟨fun j d2 f2 hj => ?_, ⟨max f' f, by simp [Ju.upd], Int.le_max_right _ _⟩, fun j d2 f2 hj => ?_⟩
      · unfold Ju.upd
        split
        · rename_i e
          subst e
          rw [hs] at hj
          injection hj with hj; injection hj with h1 h2
          subst h1 h2
          exact ⟨_, rfl, Int.le_max_left _ _⟩
        · exact ⟨f2, hj, Int.le_refl _⟩
      · unfold Ju.upd at hj
        split at hj
        · rename_i e
          injection hj with hj; injection hj with h1 h2
          subst e
          split at hm
          · exact .inr ⟨rfl, by omega⟩
          · refine .inl ?_
            rw [hs, ← h1, ← h2, hm]
        · exact .inl hj
    · cases h
theorem Flow.step {f : Ju.Fr} {l : List Ia.Ins} {k : Nat} {s S : Ju.St} {top D : Int} (hF : Flow f l k s top) (hk : k < l.length) (h : Ju.step f l.length (l[k]'hk) k s = (0, S, D)) (hr0 : Ju.jumps (l[k]'hk).op = true → 0 ≤ (l[k]'hk).n) :
    Flow f l (k + 1) S (max top D) := by
  obtain ⟨hr, hm, d0, f0, s1, hs, h4, h5, h6, h7, rfl⟩ := step_parts h
  -- the first of the two
  have A : (∀ j d' f', s j = some (d', f') → ∃ f1, s1 j = some (d', f1) ∧ f' ≤ f1) ∧ ((l[k]'hk).op ≠ 10 → ∃ f1, s1 (k + 1) = some (d0 - Ju.takes (l[k]'hk).op + Ju.gives (l[k]'hk).op, f1) ∧ f0 + 1 ≤ f1) ∧
      (∀ j d' f', s1 j = some (d', f') → s j = some (d', f') ∨ ((l[k]'hk).op ≠ 10 ∧ j = k + 1 ∧ f' = f0 + 1)) ∧ (∀ j, j ≤ k → s1 j = s j) := by
    by_cases h10 : (l[k]'hk).op = 10
    · rw [if_pos h10] at h6
      injection h6 with h6
      subst h6
      exact ⟨fun j d' f' hj => ⟨f', hj, Int.le_refl _⟩, fun e => absurd h10 e, fun j d' f' hj => .inl hj, fun _ _ => rfl⟩
    · rw [if_neg h10] at h6
      obtain ⟨c1, c2, c3⟩ := come_mono h6
      exact ⟨c1, fun _ => c2, fun j d' f' hj => (c3 j d' f' hj).imp id (fun e => ⟨h10, e.1, e.2⟩), fun j hj => come_far h6 j (by omega)⟩
  have C : (∀ j d' f', s1 j = some (d', f') → ∃ f1, S j = some (d', f1) ∧ f' ≤ f1) ∧ (Ju.jumps (l[k]'hk).op = true → ∃ f1, S (Ju.to k (l[k]'hk)) = some (d0 - Ju.takes (l[k]'hk).op + Ju.gives (l[k]'hk).op, f1) ∧ f0 + 1 ≤ f1) ∧
      (∀ j d' f', S j = some (d', f') → s1 j = some (d', f') ∨ (Ju.jumps (l[k]'hk).op = true ∧ j = Ju.to k (l[k]'hk) ∧ f' = f0 + 1)) ∧ (∀ j, j ≤ k → S j = s1 j) := by
    by_cases hj : Ju.jumps (l[k]'hk).op = true
    · rw [if_pos hj] at h7
      obtain ⟨c1, c2, c3⟩ := come_mono h7
      exact ⟨c1, fun _ => c2, fun j d' f' hjj => (c3 j d' f' hjj).imp id (fun e => ⟨hj, e.1, e.2⟩), fun j hjk => come_far h7 j (by unfold Ju.to; omega)⟩
    · rw [if_neg hj] at h7
      injection h7 with h7
      subst h7
      exact ⟨fun j d' f' hj => ⟨f', hj, Int.le_refl _⟩, fun e => absurd e hj, fun j d' f' hj => .inl hj, fun _ _ => rfl⟩
  have low : ∀ j, j ≤ k → S j = s j := fun j hj => (C.2.2.2 j hj).trans (A.2.2.2 j hj)
  have up : ∀ j d' f', s j = some (d', f') → ∃ f1, S j = some (d', f1) ∧ f' ≤ f1 := fun j d' f' hj => by
    obtain ⟨f1, e1, g1⟩ := A.1 j d' f' hj
    obtain ⟨f2, e2, g2⟩ := C.1 j d' f1 e1
    exact ⟨f2, e2, by omega⟩
  have hmx1 := Int.le_max_left top (d0 - Ju.takes (l[k]'hk).op + Ju.gives (l[k]'hk).op)
  have hmx2 := Int.le_max_right top (d0 - Ju.takes (l[k]'hk).op + Ju.gives (l[k]'hk).op)
  refine ⟨by rw [low 0 (by omega)]; exact hF.zero, fun j hj hl => ?_, fun t d f' ht => ?_⟩
  · by_cases hjk : j = k
    · subst hjk
      refine ⟨d0, f0, by rw [low j (Nat.le_refl _)]; exact hs, hr, hm, by omega, hmx2, fun hjj => ?_, fun h10 => ?_, C.2.1⟩
      · have h8 : ¬ l.length < Ju.to j (l[j]'hl) := fun hh => h5 ⟨hjj, hh⟩
        omega
      · obtain ⟨f1, e1, g1⟩ := A.2.1 h10
        obtain ⟨f2, e2, g2⟩ := C.1 _ _ _ e1
        exact ⟨f2, e2, by omega⟩
    · obtain ⟨e0, p0, q1, q2, q3, q4, q5, q6, q7, q8⟩ := hF.edge j (by omega) hl
      refine ⟨e0, p0, by rw [low j (by omega)]; exact q1, q2, q3, q4, by omega, q6, fun h10 => ?_, fun hjj => ?_⟩
      · obtain ⟨f1, e1, g1⟩ := q7 h10
        obtain ⟨f2, e2, g2⟩ := up _ _ _ e1
        exact ⟨f2, e2, by omega⟩
      · obtain ⟨f1, e1, g1⟩ := q8 hjj
        obtain ⟨f2, e2, g2⟩ := up _ _ _ e1
        exact ⟨f2, e2, by omega⟩
  · rcases C.2.2.1 t d f' ht with h1 | ⟨hjj, et, ef⟩
    · rcases A.2.2.1 t d f' h1 with h2 | ⟨h10, et, ef⟩
      · rcases hF.pred t d f' h2 with h3 | ⟨j, e0, p0, hj, hl, g1, g2, g3⟩
        · exact .inl h3
        · exact .inr ⟨j, e0, p0, by omega, hl, by rw [low j (by omega)]; exact g1, g2, g3⟩
      · exact .inr ⟨k, d0, f0, by omega, hk, by rw [low k (Nat.le_refl _)]; exact hs, ef, .inl ⟨h10, et⟩⟩
    · exact .inr ⟨k, d0, f0, by omega, hk, by rw [low k (Nat.le_refl _)]; exact hs, ef, .inr ⟨hjj, et⟩⟩
theorem flow_first (f : Ju.Fr) (l : List Ia.Ins) : Flow f l 0 Ju.first 0 := by
  refine ⟨rfl, fun j hj => absurd hj (Nat.not_lt_zero _), fun t d f' h => ?_⟩
  unfold Ju.first at h
  split at h
  · rename_i e; injection h with h; injection h with h1 h2; exact .inl ⟨e, h2.symm⟩
  · cases h
theorem run_flow {f : Ju.Fr} {l : List Ia.Ins} : ∀ (m k : Nat) (s : Ju.St) (top : Int), k + m = l.length → StOk l.length k s → Flow f l k s top → (Ju.run f l.length (l.drop k) k s top).er = 0 →
    ∃ S, Flow f l l.length S (Ju.run f l.length (l.drop k) k s top).dp ∧ S l.length = some (0, (Ju.run f l.length (l.drop k) k s top).fu) ∧ StOk l.length l.length S
  | 0, k, s, top, hk, hst, hF, he => by
    obtain rfl : k = l.length := by omega
    obtain ⟨v, hv⟩ := Option.isSome_iff_exists.1 (hst.2 rfl)
    obtain ⟨d, fu⟩ := v
    rw [List.drop_length] at he ⊢
    unfold Ju.run at he ⊢
    rw [hv] at he ⊢
    dsimp only at he ⊢
    by_cases hd : d = 0
    · subst hd
      rw [if_pos rfl]
      exact ⟨s, hF, hv, hst⟩
    · rw [if_neg hd] at he; simp at he
  | m + 1, k, s, top, hk, hst, hF, he => by
    have hk' : k < l.length := by omega
    have hst0 : Ju.step f l.length (l[k]'hk') k s = ((Ju.step f l.length (l[k]'hk') k s).1, (Ju.step f l.length (l[k]'hk') k s).2.1, (Ju.step f l.length (l[k]'hk') k s).2.2) := rfl
    rw [run_step hk' hst0] at he ⊢
    by_cases hs : (Ju.step f l.length (l[k]'hk') k s).1 = 0
    · rw [if_neg (fun e => e hs)] at he ⊢
      rw [hs] at hst0
      have A := step_st hst0 hst hk'
      have hr := (step_parts hst0).1
      exact run_flow m (k + 1) _ _ (by omega) A.1 (hF.step hk' hst0 (fun hj => (right_n hr hj).1)) he
    · rw [if_pos hs] at he; exact absurd he hs
theorem check_flow {f : Ju.Fr} {l : List Ia.Ins} (h : (Ju.check f l).er = 0) : ∃ S, Flow f l l.length S (Ju.check f l).dp ∧ S l.length = some (0, (Ju.check f l).fu) ∧ StOk l.length l.length S := by
  obtain ⟨h1, h2⟩ := check_ok h
  have e := check_run h1 h2
  have := run_flow (f := f) (l := l) l.length 0 Ju.first 0 (by omega) (st_first _) (flow_first f l) (by rw [List.drop_zero, ← e]; exact h)
  rw [List.drop_zero, ← e] at this
  exact this
theorem flow_le {f : Ju.Fr} {l : List Ia.Ins} {S : Ju.St} {top fu : Int} (hF : Flow f l l.length S top) (hn : S l.length = some (0, fu)) : ∀ (m k : Nat), k + m = l.length → ∀ d f', S k = some (d, f') → f' ≤ fu ∧ (k < l.length → f' + 1 ≤ fu)
  | 0, k, hk, d, f', hs => by
    obtain rfl : k = l.length := by omega
    rw [hn] at hs
    injection hs with hs; injection hs with h1 h2
    exact ⟨by omega, fun h => absurd h (Nat.lt_irrefl _)⟩
  | m + 1, k, hk, d, f', hs => by
    have hk' : k < l.length := by omega
    obtain ⟨e0, p0, q1, q2, q3, q4, q5, q6, q7, q8⟩ := hF.edge k hk' hk'
    rw [hs] at q1
    injection q1 with q1; injection q1 with q1a q1b
    subst q1a q1b
    have : ∃ k' f1 d1, k < k' ∧ k' ≤ l.length ∧ S k' = some (d1, f1) ∧ f' + 1 ≤ f1 := by
      by_cases h10 : (l[k]'hk').op = 10
      · have hj : Ju.jumps (l[k]'hk').op = true := by rw [h10]; rfl
        obtain ⟨f1, e1, g1⟩ := q8 hj
        exact ⟨_, f1, _, by unfold Ju.to; omega, q6 hj, e1, g1⟩
      · obtain ⟨f1, e1, g1⟩ := q7 h10
        exact ⟨k + 1, f1, _, by omega, by omega, e1, g1⟩
    obtain ⟨k', f1, d1, hlt, hle, e1, g1⟩ := this
    have ih := (flow_le_aux hF hn (l.length - k') k' (by omega) m (by omega) d1 f1 e1)
    exact ⟨by omega, fun _ => by omega⟩
where
  flow_le_aux {f : Ju.Fr} {l : List Ia.Ins} {S : Ju.St} {top fu : Int} (hF : Flow f l l.length S top) (hn : S l.length = some (0, fu)) (m' k' : Nat) (hk' : k' + m' = l.length) (m : Nat) (hm : m' ≤ m) (d f' : Int) (hs : S k' = some (d, f')) : f' ≤ fu :=
    (flow_le hF hn m' k' hk' d f' hs).1
/-- the most instructions from a place on, by those behind it -/
def bestOf (i : Ia.Ins) (j : Nat) (M : Nat → Int) : Int := if i.op = 10 then max 0 (M (Ju.to j i)) else if i.op = 11 then max (M (j + 1)) (M (Ju.to j i)) else M (j + 1)
structure MostOk (l : List Ia.Ins) (k : Nat) (M : Nat → Int) : Prop where
  stop : M l.length = 0
  rng : ∀ j, j ≤ l.length → 0 ≤ M j ∧ M j ≤ l.length
  at_ : ∀ j (_ : k ≤ j) (h : j < l.length), M j = bestOf (l[j]'h) j M + 1
  rest : ∀ j, k ≤ j → j ≤ l.length → M j ≤ l.length - j
theorem most_up {f : Ju.Fr} {l : List Ia.Ins} {S : Ju.St} {top fu : Int} {M : Nat → Int} (hF : Flow f l l.length S top) (hn : S l.length = some (0, fu)) (hM : MostOk l 0 M) : ∀ (m k : Nat), l.length - k ≤ m → k ≤ l.length → ∀ d f', S k = some (d, f') → f' + M k ≤ fu
  | 0, k, hk, hkl, d, f', hs => by
    obtain rfl : k = l.length := by omega
    rw [hn] at hs
    injection hs with hs; injection hs with h1 h2
    rw [hM.stop]; omega
  | m + 1, k, hk, hkl, d, f', hs => by
    by_cases hk' : k < l.length
    · obtain ⟨e0, p0, q1, q2, q3, q4, q5, q6, q7, q8⟩ := hF.edge k hk' hk'
      rw [hs] at q1
      injection q1 with q1; injection q1 with q1a q1b
      subst q1a q1b
      rw [hM.at_ k (Nat.zero_le _) hk']
      have via : ∀ k' f1 d1, k < k' → k' ≤ l.length → S k' = some (d1, f1) → f' + 1 ≤ f1 → f' + 1 + M k' ≤ fu := fun k' f1 d1 h1 h2 h3 h4 => by
        have := most_up hF hn hM m k' (by omega) h2 d1 f1 h3
        omega
      unfold bestOf
      by_cases h10 : (l[k]'hk').op = 10
      · rw [if_pos h10]
        have hj : Ju.jumps (l[k]'hk').op = true := by rw [h10]; rfl
        obtain ⟨f1, e1, g1⟩ := q8 hj
        have h0 := (hM.rng _ (q6 hj)).1
        rw [Int.max_eq_right h0]
        have := via _ f1 _ (by unfold Ju.to; omega) (q6 hj) e1 g1
        omega
      · rw [if_neg h10]
        obtain ⟨f1, e1, g1⟩ := q7 h10
        have A := via (k + 1) f1 _ (by omega) (by omega) e1 g1
        by_cases h11 : (l[k]'hk').op = 11
        · rw [if_pos h11]
          have hj : Ju.jumps (l[k]'hk').op = true := by rw [h11]; rfl
          obtain ⟨f2, e2, g2⟩ := q8 hj
          have C := via _ f2 _ (by unfold Ju.to; omega) (q6 hj) e2 g2
          have hm := Int.max_def (M (k + 1)) (M (Ju.to k (l[k]'hk')))
          split at hm <;> omega
        · rw [if_neg h11]; omega
    · obtain rfl : k = l.length := by omega
      rw [hn] at hs
      injection hs with hs; injection hs with h1 h2
      rw [hM.stop]; omega
theorem most_low {f : Ju.Fr} {l : List Ia.Ins} {S : Ju.St} {top : Int} {M : Nat → Int} (hF : Flow f l l.length S top) (hM : MostOk l 0 M) : ∀ (m t : Nat), t < m → t ≤ l.length → ∀ d f', S t = some (d, f') → f' + M t ≤ M 0
  | 0, t, hm, _, _, _, _ => absurd hm (Nat.not_lt_zero _)
  | m + 1, t, hm, htl, d, f', hs => by
    rcases hF.pred t d f' hs with ⟨rfl, rfl⟩ | ⟨j, d0, f0, hj, hl, g1, g2, g3⟩
    · omega
    · have hat := hM.at_ j (Nat.zero_le _) hl
      have hMt : M t ≤ bestOf (l[j]'hl) j M := by
        unfold bestOf
        rcases g3 with ⟨h10, rfl⟩ | ⟨hjj, rfl⟩
        · rw [if_neg h10]
          split
          · exact Int.le_max_left _ _
          · exact Int.le_refl _
        · unfold Ju.jumps at hjj
          simp only [Bool.or_eq_true, beq_iff_eq] at hjj
          rcases hjj with h | h
          · rw [if_pos h]; exact Int.le_max_right _ _
          · rw [if_neg (by rw [h]; decide), if_pos h]; exact Int.le_max_right _ _
      have hlt : j < t := by
        rcases g3 with ⟨_, rfl⟩ | ⟨_, rfl⟩
        · omega
        · unfold Ju.to; omega
      have := most_low hF hM m j (by omega) (by omega) d0 f0 g1
      omega
theorem most_fuel {f : Ju.Fr} {l : List Ia.Ins} {S : Ju.St} {top fu : Int} {M : Nat → Int} (hF : Flow f l l.length S top) (hn : S l.length = some (0, fu)) (hM : MostOk l 0 M) : M 0 = fu := by
  have h1 := most_up hF hn hM l.length 0 (by omega) (Nat.zero_le _) 0 0 hF.zero
  have h2 := most_low hF hM (l.length + 1) l.length (by omega) (Nat.le_refl _) 0 fu hn
  rw [hM.stop] at h2
  omega
def updM (M : Nat → Int) (k : Nat) (v : Int) : Nat → Int := fun j => if j = k then v else M j
theorem most_first (l : List Ia.Ins) : MostOk l l.length (fun _ => 0) :=
  ⟨rfl, fun j _ => by omega, fun j h1 h2 => absurd h2 (by omega), fun j h1 h2 => by omega⟩
theorem most_step {l : List Ia.Ins} {j : Nat} {M : Nat → Int} (hM : MostOk l (j + 1) M) (h : j < l.length) (hto : Ju.jumps (l[j]'h).op = true → Ju.to j (l[j]'h) ≤ l.length) : MostOk l j (updM M j (bestOf (l[j]'h) j M + 1)) := by
  have far : ∀ t, j < t → updM M j (bestOf (l[j]'h) j M + 1) t = M t := fun t ht => by unfold updM; rw [if_neg (by omega)]
  have hbest : 0 ≤ bestOf (l[j]'h) j M ∧ bestOf (l[j]'h) j M ≤ l.length - (j + 1 : Nat) := by
    have h1 := hM.rng (j + 1) (by omega)
    have h2 := hM.rest (j + 1) (Nat.le_refl _) (by omega)
    unfold bestOf
    split
    · rename_i h10
      have hj : Ju.jumps (l[j]'h).op = true := by rw [h10]; rfl
      have ht := hto hj
      have hlt : j + 1 ≤ Ju.to j (l[j]'h) := by unfold Ju.to; omega
      have h3 := hM.rng _ ht
      have h4 := hM.rest _ hlt ht
      rw [Int.max_eq_right h3.1]; omega
    · split
      · rename_i h11
        have hj : Ju.jumps (l[j]'h).op = true := by rw [h11]; rfl
        have ht := hto hj
        have hlt : j + 1 ≤ Ju.to j (l[j]'h) := by unfold Ju.to; omega
        have h3 := hM.rng _ ht
        have h4 := hM.rest _ hlt ht
        have hm := Int.max_def (M (j + 1)) (M (Ju.to j (l[j]'h)))
        split at hm <;> omega
      · omega
  have hbe : ∀ t (ht : t < l.length), j ≤ t → bestOf (l[t]'ht) t (updM M j (bestOf (l[j]'h) j M + 1)) = bestOf (l[t]'ht) t M := fun t ht htj => by
    have f1 := far (t + 1) (by omega)
    have f2 := far (Ju.to t (l[t]'ht)) (by unfold Ju.to; omega)
    generalize updM M j (bestOf (l[j]'h) j M + 1) = M2 at *
    unfold bestOf
    rw [f1, f2]
  refine ⟨by rw [far _ h]; exact hM.stop, fun t ht => ?_, fun t ht1 ht2 => ?_, fun t ht1 ht2 => ?_⟩
  · by_cases e : t = j
    · subst e; unfold updM; rw [if_pos rfl]; omega
    · unfold updM; rw [if_neg e]; exact hM.rng t ht
  · rw [hbe t ht2 ht1]
    by_cases e : t = j
    · subst e; unfold updM; rw [if_pos rfl]
    · rw [far t (by omega)]; exact hM.at_ t (by omega) ht2
  · by_cases e : t = j
    · subst e; unfold updM; rw [if_pos rfl]; omega
    · rw [far t (by omega)]; exact hM.rest t (by omega) ht2
end Go.Proofs.Ytlfbpcjeohbfkaa
