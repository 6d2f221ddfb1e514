/-
  The reference of judge: its ways, and rows of integers that it grows and writes.
-/
import Derived.Test.YtlfbpcjeohbfkaaJuI
import Derived.Maps.AppendAt
namespace Go.Proofs.Ytlfbpcjeohbfkaa
set_option maxRecDepth 20000
open Go.RowKit Mem

def waysOf (i : Ia.Ins) (k : Nat) : List Nat := if i.op = 10 then [Ju.to k i] else if i.op = 11 then [k + 1, Ju.to k i] else [k + 1]
def iCells (L : List Nat) : Array Value := (L.map fun (t : Nat) => Value.int .i64 (t : Int)).toArray
theorem refways (i : Ia.Ins) (k : Nat) (w : World) (hk : k ≤ 600) (hn : -2147483648 ≤ i.n ∧ i.n ≤ 2147483647) (hj : Ju.jumps i.op = true → 0 ≤ i.n) :
    Calls Try.prog 20 #[.agg #[.int .i64 i.op, .int .i32 i.n], .int .i64 (k : Int)] w fun e w' => ∃ g, e = .returned (.slice (some ⟨g, 0, none⟩) (waysOf i k).length (waysOf i k).length) ∧ w.heap.size ≤ g ∧ w'.heap[g]? = some (.cells (iCells (waysOf i k)) 3 (0, 0)) ∧ Below w.heap.size w w' := by
  obtain ⟨n1, n2⟩ := hn
  by_cases h10 : i.op = 10
  · have hL : waysOf i k = [Ju.to k i] := by unfold waysOf; rw [if_pos h10]
    have h0 := hj (by rw [h10]; rfl)
    have hT : (k : Int) + 1 + i.n = ((Ju.to k i : Nat) : Int) := by unfold Ju.to; omega
    rw [hL]
    generalize Ju.to k i = T at *
    clear hL hj
    go_enter Try.func20, Try.ntmps20
    go_wp2_with fail
    go_ret
    exact ⟨_, rfl, by omega, heap_alloc2_new _ _ _, ((Below.refl _ _).alloc (Nat.le_refl _) _).alloc (by simp) _⟩
  · by_cases h11 : i.op = 11
    · have hL : waysOf i k = [k + 1, Ju.to k i] := by unfold waysOf; rw [if_neg h10, if_pos h11]
      have h0 := hj (by rw [h11]; rfl)
      have hT : (k : Int) + 1 + i.n = ((Ju.to k i : Nat) : Int) := by unfold Ju.to; omega
      rw [hL]
      generalize Ju.to k i = T at *
      clear hL hj
      go_enter Try.func20, Try.ntmps20
      go_wp2_with fail
      go_ret
      exact ⟨_, rfl, by omega, heap_alloc2_new _ _ _, ((Below.refl _ _).alloc (Nat.le_refl _) _).alloc (by simp) _⟩
    · have hL : waysOf i k = [k + 1] := by unfold waysOf; rw [if_neg h10, if_neg h11]
      have h10b : (i.op == 10) = false := by simpa using h10
      have h11b : (i.op == 11) = false := by simpa using h11
      rw [hL]
      clear hL hj
      go_enter Try.func20, Try.ntmps20
      go_wp2_with fail
      go_ret
      exact ⟨_, rfl, by omega, heap_alloc2_new _ _ _, ((Below.refl _ _).alloc (Nat.le_refl _) _).alloc (by simp) _⟩
def dOf (s : Ju.St) (j : Nat) : Int := match s j with | none => -1 | some v => v.1
def fOf (s : Ju.St) (j : Nat) : Int := match s j with | none => 0 | some v => v.2
def RAt (w : World) (g n : Nat) (D : Nat → Int) : Prop := ∃ cs, w.heap[g]? = some (.cells cs 3 (0, 0)) ∧ n + 1 ≤ cs.size ∧ ∀ j, j ≤ n → cs[j]? = some (.int .i64 (D j))
theorem RAt.lt {w : World} {g n : Nat} {D : Nat → Int} (h : RAt w g n D) : g < w.heap.size := by
  obtain ⟨cs, hh, _⟩ := h
  exact (Array.getElem?_eq_some_iff.1 hh).1
theorem RAt.cell {w : World} {g n : Nat} {D : Nat → Int} (h : RAt w g n D) (j : Nat) (hj : j ≤ n) : w.cell? ⟨g, j, none⟩ = some (.int .i64 (D j)) := by
  obtain ⟨cs, hh, _, hc⟩ := h
  rw [cell_of_row w g j _ _ (0, 0) hh, hc j hj]
theorem RAt.frozen {w : World} {g n : Nat} {D : Nat → Int} (h : RAt w g n D) (j : Nat) : w.frozen? ⟨g, j, none⟩ = false := by
  obtain ⟨cs, hh, _⟩ := h
  simp [World.frozen?, hh]
theorem RAt.of_eq {w w' : World} {g n : Nat} {D : Nat → Int} (h : RAt w g n D) (he : w'.heap[g]? = w.heap[g]?) : RAt w' g n D := by
  obtain ⟨cs, hh, h2⟩ := h
  exact ⟨cs, he.trans hh, h2⟩
theorem RAt.below {w w' : World} {g n B : Nat} {D : Nat → Int} (h : RAt w g n D) (hb : Below B w w') (hg : g < B) : RAt w' g n D := h.of_eq (hb.block _ hg)
theorem RAt.set {w : World} {g n : Nat} {D D' : Nat → Int} (h : RAt w g n D) (j : Nat) (v : Int) (hD : ∀ t, D' t = if t = j then v else D t) : RAt (w.setCell ⟨g, j, none⟩ (.int .i64 v)) g n D' := by
  obtain ⟨cs, hh, hs, hc⟩ := h
  refine ⟨_, heap_setCell_same _ g j _ _ _ hh, by simpa using hs, fun t ht => ?_⟩
  rw [hD t]
  by_cases e : t = j
  · subst e
    rw [if_pos rfl, Array.getElem?_setIfInBounds_self_of_lt (by omega)]
  · rw [if_neg e, Array.getElem?_setIfInBounds_ne (fun hh => e hh.symm), hc t ht]
theorem RAt.other {w : World} {g g' n : Nat} {D : Nat → Int} (h : RAt w g n D) (j : Nat) (v : Value) (hne : g ≠ g') : RAt (w.setCell ⟨g', j, none⟩ v) g n D := h.of_eq (heap_setCell_other _ _ _ _ hne)
def negs (j : Nat) : List Value := List.replicate j (.int .i64 (-1))
def zers (j : Nat) : List Value := List.replicate j (.int .i64 0)
theorem negs_succ (j : Nat) : negs (j + 1) = negs j ++ [.int .i64 (-1)] := List.replicate_succ'
theorem zers_succ (j : Nat) : zers (j + 1) = zers j ++ [.int .i64 0] := List.replicate_succ'
theorem RAt.of_own {w : World} {base n : Nat} {v : Value} {x : Int} (h : w.ownsRow base 3 1 v (n + 1) (List.replicate (n + 1) (.int .i64 x))) : ∃ g c, v = .slice (some ⟨g, 0, none⟩) (n + 1) c ∧ base ≤ g ∧ n + 1 ≤ c ∧ c ≤ maxLen ∧ v.ownBlock = some g ∧ RAt w g n (fun _ => x) := by
  rcases h.2 with ⟨_, h0⟩ | ⟨g, cap, cur, rfl, hb, hh, hc, hm, hs, ht⟩
  · omega
  · refine ⟨g, cap, rfl, hb, hc, hm, rfl, cur, hh, by omega, fun j hj => ?_⟩
    have e : cur.toList[j]? = (cur.toList.take ((n + 1) * 1))[j]? := by rw [List.getElem?_take, if_pos (by omega)]
    rw [← Array.getElem?_toList, e, ht, List.getElem?_replicate, if_pos (by omega)]
/-- the ways taken one behind the other -/
def comes (s : Ju.St) (d f : Int) : List Nat → Option Ju.St
  | [] => some s
  | t :: r => match Ju.come s t d f with | none => none | some s1 => comes s1 d f r
theorem comes_snoc (d f : Int) : ∀ (L : List Nat) (s : Ju.St) (t : Nat), comes s d f (L ++ [t]) = match comes s d f L with | none => none | some s1 => Ju.come s1 t d f
  | [], s, t => by simp only [List.nil_append, comes]; cases Ju.come s t d f <;> rfl
  | u :: r, s, t => by
    simp only [List.cons_append, comes]
    cases h : Ju.come s u d f with
    | none => rfl
    | some s1 => exact comes_snoc d f r s1 t
theorem comes_none (d f : Int) : ∀ (L : List Nat) (s : Ju.St) (j : Nat), comes s d f (L.take j) = none → comes s d f L = none
  | [], s, j, h => by simpa using h
  | u :: r, s, 0, h => by simp [comes] at h
  | u :: r, s, j + 1, h => by
    simp only [List.take_succ_cons, comes] at h ⊢
    cases hc : Ju.come s u d f with
    | none => rfl
    | some s1 => rw [hc] at h; exact comes_none d f r s1 j h
theorem step_ways {f : Ju.Fr} {n k : Nat} {i : Ia.Ins} {s : Ju.St} {d0 f0 : Int} (hr : Ia.right i = 0) (hm : ¬ (0 ≤ Ju.room i.op f ∧ Ju.room i.op f ≤ i.n)) (hs : s k = some (d0, f0)) (h4 : ¬ (d0 < Ju.takes i.op ∨ 16 < d0 - Ju.takes i.op + Ju.gives i.op)) (hk : k < n) :
    ((∃ t ∈ waysOf i k, n < t) → (Ju.step f n i k s).1 = 11) ∧
    ((∀ t ∈ waysOf i k, t ≤ n) → match comes s (d0 - Ju.takes i.op + Ju.gives i.op) (f0 + 1) (waysOf i k) with
      | none => (Ju.step f n i k s).1 = 12
      | some S => Ju.step f n i k s = (0, S, d0 - Ju.takes i.op + Ju.gives i.op)) := by
  by_cases h10 : i.op = 10
  · have hj : Ju.jumps i.op = true := by rw [h10]; rfl
    have hL : waysOf i k = [Ju.to k i] := by unfold waysOf; rw [if_pos h10]
    rw [hL]
    refine ⟨fun ⟨t, ht, hlt⟩ => ?_, fun hall => ?_⟩
    · rw [List.mem_singleton] at ht; subst ht
      rw [Ju.step_jump hr hm hs h4 ⟨hj, hlt⟩]
    · have h5 : ¬ (Ju.jumps i.op = true ∧ n < Ju.to k i) := fun h => by have := hall _ (List.mem_singleton.2 rfl); have := h.2; omega
      simp only [comes]
      cases hc : Ju.come s (Ju.to k i) (d0 - Ju.takes i.op + Ju.gives i.op) (f0 + 1) with
      | none => rw [Ju.step_c2 hr hm hs h4 h5 (if_pos h10) ((if_pos hj).trans hc)]
      | some S => exact Ju.step_ok hr hm hs h4 h5 (if_pos h10) ((if_pos hj).trans hc)
  · by_cases h11 : i.op = 11
    · have hj : Ju.jumps i.op = true := by rw [h11]; rfl
      have hL : waysOf i k = [k + 1, Ju.to k i] := by unfold waysOf; rw [if_neg h10, if_pos h11]
      rw [hL]
      refine ⟨fun ⟨t, ht, hlt⟩ => ?_, fun hall => ?_⟩
      · simp only [List.mem_cons, List.not_mem_nil, or_false] at ht
        rcases ht with rfl | rfl
        · omega
        · rw [Ju.step_jump hr hm hs h4 ⟨hj, hlt⟩]
      · have h5 : ¬ (Ju.jumps i.op = true ∧ n < Ju.to k i) := fun h => by have := hall (Ju.to k i) (by simp); have := h.2; omega
        simp only [comes]
        cases hc : Ju.come s (k + 1) (d0 - Ju.takes i.op + Ju.gives i.op) (f0 + 1) with
        | none => rw [Ju.step_c1 hr hm hs h4 h5 ((if_neg h10).trans hc)]
        | some s1 =>
          dsimp only
          cases hc2 : Ju.come s1 (Ju.to k i) (d0 - Ju.takes i.op + Ju.gives i.op) (f0 + 1) with
          | none => rw [Ju.step_c2 hr hm hs h4 h5 ((if_neg h10).trans hc) ((if_pos hj).trans hc2)]
          | some S => exact Ju.step_ok hr hm hs h4 h5 ((if_neg h10).trans hc) ((if_pos hj).trans hc2)
    · have hj : ¬ Ju.jumps i.op = true := by unfold Ju.jumps; simp [h10, h11]
      have hL : waysOf i k = [k + 1] := by unfold waysOf; rw [if_neg h10, if_neg h11]
      rw [hL]
      refine ⟨fun ⟨t, ht, hlt⟩ => ?_, fun hall => ?_⟩
      · rw [List.mem_singleton] at ht; subst ht; omega
      · have h5 : ¬ (Ju.jumps i.op = true ∧ n < Ju.to k i) := fun h => hj h.1
        simp only [comes]
        cases hc : Ju.come s (k + 1) (d0 - Ju.takes i.op + Ju.gives i.op) (f0 + 1) with
        | none => rw [Ju.step_c1 hr hm hs h4 h5 ((if_neg h10).trans hc)]
        | some S => exact Ju.step_ok hr hm hs h4 h5 ((if_neg h10).trans hc) (if_neg hj)
end Go.Proofs.Ytlfbpcjeohbfkaa
