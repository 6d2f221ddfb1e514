/-
  A drawn statement whose values no order changes, and which writes, last of all, a variable that it read first.
-/
import Derived.Test.YtilkilffkjhhbaaRgn
namespace Go.Proofs.Ytilkilffkjhhbaa.Mem
set_option maxRecDepth 20000
set_option linter.unusedVariables false
open Go.RowKit

/-- each operation of a list needs the next one -/
def downOk (ops : Array Oper) : List Nat → Bool
  | x :: y :: r => (match (ops[x]?).map fun o => o.after.any fun e => Region.binds .any e && e.on == y with | some true => true | _ => false) && downOk ops (y :: r)
  | _ => true
def Down (L : Nat → Bool) : List Nat → Prop
  | x :: y :: r => (L x = true → L y = true) ∧ Down L (y :: r)
  | _ => True
theorem Down.none : ∀ (c : List Nat), Down (fun _ => false) c
  | [] => trivial
  | [_] => trivial
  | x :: y :: r => ⟨fun h => (by cases h), Down.none (y :: r)⟩
theorem Down.last {L : Nat → Bool} : ∀ (c : List Nat) (x : Nat), Down L (x :: c) → L ((x :: c).getLast (by simp)) = false → L x = false
  | [], x, _, h => h
  | y :: r, x, hd, h => by
    have := Down.last r y hd.2 (by simpa using h)
    cases hx : L x with
    | false => rfl
    | true => rw [hd.1 hx] at this; cases this
theorem Down.set {ops : Array Oper} {L L' : Nat → Bool} {i : Nat} (hn : ∀ on, ((ops[i]?).map fun o => o.after.any fun e => Region.binds .any e && e.on == on) = some true → L on = true)
    (hs : ∀ j, L' j = (if j = i then true else L j)) : ∀ (c : List Nat), downOk ops c = true → Down L c → Down L' c
  | [], _, _ => trivial
  | [_], _, _ => trivial
  | x :: y :: r, hd, h => by
    unfold downOk at hd
    rw [Bool.and_eq_true] at hd
    refine ⟨fun hx => ?_, Down.set hn hs (y :: r) hd.2 h.2⟩
    rw [hs] at hx ⊢
    by_cases hy : y = i
    · rw [if_pos hy]
    · rw [if_neg hy]
      by_cases hxi : x = i
      · refine hn y ?_
        rw [← hxi]
        have := hd.1
        split at this
        · assumption
        · cases this
      · rw [if_neg hxi] at hx
        exact h.1 hx
theorem region_acc {P : Program} {ops : Array Oper} {Q : Exit → Act → World → Prop} (hdep : depOk ops = true) (W0 : World) (a0 : Act) (slots : List (Nat × Nat)) (val : Nat → Value) (ok : slotsFix slots a0.tmps.size = true)
    (hall : slots.all (fun p => decide (p.1 < ops.size)) = true) (n : Nat) (hn : ops.size = n) (top : Nat) (rest : List Nat) (ld : Nat) (hdn : downOk ops (top :: rest) = true) (hls : (top, ld) ∈ slots)
    (step : ∀ i L a w, Rf W0 a0 slots val L a w → (L.getD ((top :: rest).getLast (by simp)) false = false → a.eval (.tmp ld) = a0.eval (.tmp ld)) → L.getD i false = false → i < n → (∀ on, ((ops[i]?).map fun o => o.after.any fun e => Region.binds .any e && e.on == on) = some true → L.getD on false = true) → FixOp P ops Q val slots i a w)
    (hQ : ∀ w, Below W0.heap.size W0 w → Q .normal (slots.foldl (fun x p => x.put (some p.2) (val p.1)) a0) w) : wpAny P .any ops Q n (Array.replicate n false) a0 W0.drew := by
  subst hn
  refine wpAny_gen (fun L a w => Rf W0 a0 slots val L a w ∧ Down (fun i => L.getD i false) (top :: rest) ∧ (L.getD top false = false → a.eval (.tmp ld) = a0.eval (.tmp ld))) hdep ?_ ?_ ops.size _ a0 W0.drew (by simp) (by simp) ⟨⟨rfl, rfl, fun _ _ => rfl, (Below.refl _ _).drew, fun p _ hL => ?_⟩, ?_, fun _ => rfl⟩
  · rintro i L a w ⟨h, hd0, hacc⟩ hL hi hf hneed
    obtain ⟨d, hm, hw⟩ := step i L a w h (fun e => hacc (Down.last rest top hd0 e)) hf hi hneed
    refine wpOp_mono ?_ hw
    rintro a' w' ⟨rfl, hb⟩
    have hk := List.all_eq_true.1 ok _ hm
    simp only [Bool.and_eq_true, decide_eq_true_eq] at hk
    obtain ⟨k5, k6⟩ := hk
    have hset : ∀ j, (L.setIfInBounds i true).getD j false = (if j = i then true else L.getD j false) := fun j => by
      by_cases e : j = i
      · subst e; simp [Array.getD, hL, hi]
      · rw [if_neg e, getD_set_ne e]
    have hdn' : ∀ p ∈ slots, p.1 ≠ i → d ≠ p.2 := fun p hp hi' e => by
      have hq := List.all_eq_true.1 k6 p hp
      have h1 : (i == p.1) = false := by simpa using fun e => hi' e.symm
      have h2 : (d == p.2) = true := by simp [e]
      simp only [h1, h2] at hq
      cases hq
    refine ⟨⟨(Act.size_put _ _ _).trans h.sz, (Act.defers_put' _ _ _).trans h.df, fun j hj => ?_, h.below.trans (hb.mono h.below.size), fun p hp hLp => ?_⟩, Down.set hneed hset _ hdn hd0, fun hl => ?_⟩
    · rw [← h.rest j hj]
      show (a.tmps.setIfInBounds d _)[j]? = _
      rw [Array.getElem?_setIfInBounds_ne]
      intro e
      subst e
      have : (slots.map (·.2)).contains d = true := by rw [List.contains_iff_mem]; exact List.mem_map.2 ⟨_, hm, rfl⟩
      rw [this] at hj
      cases hj
    · have hq := List.all_eq_true.1 k6 p hp
      by_cases hi : p.1 = i
      · have hd2 : p.2 = d := by
          have : (i == p.1) = true := by simp [hi]
          rw [this] at hq
          have : (d == p.2) = true := by simpa using hq
          exact (beq_iff_eq.1 this).symm
        rw [hi, hd2]
        exact Act.eval_put_same _ _ _ (by rw [h.sz]; exact k5)
      · rw [getD_set_ne hi] at hLp
        exact (Act.eval_put_ne _ d p.2 _ (hdn' p hp hi)).trans (h.f p hp hLp)
    · rw [hset] at hl
      by_cases e : top = i
      · rw [if_pos e] at hl; cases hl
      · rw [if_neg e] at hl
        exact (Act.eval_put_ne _ d ld _ (hdn' _ hls e)).trans (hacc hl)
  · rintro L a w hL hL2 ⟨h, -, -⟩
    have e := put_form (slots.map (·.2)) a0 h.sz h.df (fun j hj => h.rest j (by
      cases hc : (slots.map (·.2)).contains j with
      | false => rfl
      | true => exact absurd (List.contains_iff_mem.1 hc) hj))
    have hall' : ∀ p ∈ slots, a.eval (.tmp p.2) = val p.1 := fun p hp => h.f p hp (hL2 _ (by simpa using List.all_eq_true.1 hall p hp))
    rw [e, foldl_vals a val slots a0 hall']
    exact hQ w h.below
  · simp [Array.getD] at hL
  · have := Down.none (top :: rest)
    simpa [Array.getD] using this
end Go.Proofs.Ytilkilffkjhhbaa.Mem
