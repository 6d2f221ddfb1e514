/-
  A way that comes to a place: the method come of judge's walk.
-/
import Derived.Test.YtlfbpcjeohbfkaaJuB
namespace Go.Proofs.Ytlfbpcjeohbfkaa
open Go.RowKit Mem

/-- the cells of the places -/
def cellOf (s : Ju.St) (j : Nat) : Value :=
  match s (j / 3) with
  | none => if j % 3 = 0 then .bool false else .int .i64 0
  | some v => if j % 3 = 0 then .bool true else if j % 3 = 1 then .int .i64 v.1 else .int .i64 v.2
def plCells (n : Nat) (s : Ju.St) : Array Value := ((List.range (3 * (n + 1))).map (cellOf s)).toArray
theorem pl_get (n : Nat) (s : Ju.St) (j : Nat) (h : j < 3 * (n + 1)) : (plCells n s)[j]? = some (cellOf s j) := by
  unfold plCells
  rw [List.getElem?_toArray, List.getElem?_map, List.getElem?_range h]
  rfl
theorem pl_size (n : Nat) (s : Ju.St) : (plCells n s).size = 3 * (n + 1) := by simp [plCells]
theorem pl_ext (n : Nat) (s : Ju.St) (xs : Array Value) (hs : xs.size = 3 * (n + 1)) (h : ∀ j, j < 3 * (n + 1) → xs[j]? = some (cellOf s j)) : xs = plCells n s := by
  apply Array.ext
  · rw [hs, pl_size]
  · intro i h1 h2
    have h3 := h i (by omega)
    have h4 := pl_get n s i (by omega)
    rw [Array.getElem?_eq_getElem h1] at h3
    rw [Array.getElem?_eq_getElem h2] at h4
    exact Option.some.inj (h3.trans h4.symm)
theorem cellOf_upd_ne (s : Ju.St) (t : Nat) (v : Int × Int) (j : Nat) (h : j / 3 ≠ t) : cellOf (Ju.upd s t v) j = cellOf s j := by
  unfold cellOf Ju.upd
  rw [if_neg h]
theorem cellOf_upd (s : Ju.St) (t : Nat) (v : Int × Int) : cellOf (Ju.upd s t v) (t * 3) = .bool true ∧ cellOf (Ju.upd s t v) (t * 3 + 1) = .int .i64 v.1 ∧ cellOf (Ju.upd s t v) (t * 3 + 2) = .int .i64 v.2 := by
  unfold cellOf Ju.upd
  have h0 : t * 3 / 3 = t := by omega
  have h1 : (t * 3 + 1) / 3 = t := by omega
  have h2 : (t * 3 + 2) / 3 = t := by omega
  have k0 : t * 3 % 3 = 0 := by omega
  have k1 : (t * 3 + 1) % 3 = 1 := by omega
  have k2 : (t * 3 + 2) % 3 = 2 := by omega
  simp [h0, h1, h2, k0, k1, k2]
theorem cellOf_some {s : Ju.St} {t : Nat} {v : Int × Int} (h : s t = some v) : cellOf s (t * 3) = .bool true ∧ cellOf s (t * 3 + 1) = .int .i64 v.1 ∧ cellOf s (t * 3 + 2) = .int .i64 v.2 := by
  unfold cellOf
  have h0 : t * 3 / 3 = t := by omega
  have h1 : (t * 3 + 1) / 3 = t := by omega
  have h2 : (t * 3 + 2) / 3 = t := by omega
  have k0 : t * 3 % 3 = 0 := by omega
  have k1 : (t * 3 + 1) % 3 = 1 := by omega
  have k2 : (t * 3 + 2) % 3 = 2 := by omega
  rw [h0, h1, h2, h]
  simp [k0, k1, k2]
theorem cellOf_none {s : Ju.St} {t : Nat} (h : s t = none) : cellOf s (t * 3) = .bool false ∧ cellOf s (t * 3 + 1) = .int .i64 0 ∧ cellOf s (t * 3 + 2) = .int .i64 0 := by
  unfold cellOf
  have h0 : t * 3 / 3 = t := by omega
  have h1 : (t * 3 + 1) / 3 = t := by omega
  have h2 : (t * 3 + 2) / 3 = t := by omega
  have k0 : t * 3 % 3 = 0 := by omega
  have k1 : (t * 3 + 1) % 3 = 1 := by omega
  have k2 : (t * 3 + 2) % 3 = 2 := by omega
  rw [h0, h1, h2, h]
  simp [k0, k1, k2]
theorem pl_set3 (n : Nat) (s : Ju.St) (t : Nat) (d f : Int) : (((plCells n s).setIfInBounds (t * 3) (.bool true)).setIfInBounds (t * 3 + 1) (.int .i64 d)).setIfInBounds (t * 3 + 2) (.int .i64 f) = plCells n (Ju.upd s t (d, f)) := by
  refine pl_ext n _ _ (by simp [pl_size]) (fun j hj => ?_)
  obtain ⟨u0, u1, u2⟩ := cellOf_upd s t (d, f)
  by_cases h0 : j = t * 3
  · subst h0
    rw [Array.getElem?_setIfInBounds_ne (by omega), Array.getElem?_setIfInBounds_ne (by omega), Array.getElem?_setIfInBounds_self_of_lt (by rw [pl_size]; exact hj), u0]
  · by_cases h1 : j = t * 3 + 1
    · subst h1
      rw [Array.getElem?_setIfInBounds_ne (by omega), Array.getElem?_setIfInBounds_self_of_lt (by simp [pl_size]; omega), u1]
    · by_cases h2 : j = t * 3 + 2
      · subst h2
        rw [Array.getElem?_setIfInBounds_self_of_lt (by simp [pl_size]; omega), u2]
      · rw [Array.getElem?_setIfInBounds_ne (by omega), Array.getElem?_setIfInBounds_ne (by omega), Array.getElem?_setIfInBounds_ne (by omega), pl_get n s j hj, cellOf_upd_ne s t _ j (by omega)]
theorem pl_set1 (n : Nat) (s : Ju.St) (t : Nat) (d f0 f : Int) (hs : s t = some (d, f0)) : (plCells n s).setIfInBounds (t * 3 + 2) (.int .i64 f) = plCells n (Ju.upd s t (d, f)) := by
  refine pl_ext n _ _ (by simp [pl_size]) (fun j hj => ?_)
  obtain ⟨u0, u1, u2⟩ := cellOf_upd s t (d, f)
  obtain ⟨s0, s1, s2⟩ := cellOf_some hs
  by_cases h2 : j = t * 3 + 2
  · subst h2
    rw [Array.getElem?_setIfInBounds_self_of_lt (by simp [pl_size]; omega), u2]
  · rw [Array.getElem?_setIfInBounds_ne (by omega), pl_get n s j hj]
    by_cases h0 : j = t * 3
    · subst h0; rw [u0, s0]
    · by_cases h1 : j = t * 3 + 1
      · subst h1; rw [u1, s1]
      · rw [cellOf_upd_ne s t _ j (by omega)]
/-- the walk's own cells: the places' slice, the depth and the steps told -/
def WkAt (w : World) (g0 g1 n : Nat) (top fu : Int) : Prop := w.heap[g0]? = some (.cells #[.slice (some ⟨g1, 0, none⟩) (n + 1) (n + 1), .int .i64 top, .int .i64 fu] 50 (0, 0))
def PlAt (w : World) (g1 n : Nat) (s : Ju.St) : Prop := w.heap[g1]? = some (.cells (plCells n s) 52 (0, 0))
theorem WkAt.cell {w : World} {g0 g1 n : Nat} {top fu : Int} (h : WkAt w g0 g1 n top fu) : w.cell? ⟨g0, 0, none⟩ = some (.slice (some ⟨g1, 0, none⟩) (n + 1) (n + 1)) ∧ w.cell? ⟨g0, 1, none⟩ = some (.int .i64 top) ∧ w.cell? ⟨g0, 2, none⟩ = some (.int .i64 fu) :=
  ⟨cell_of_row w g0 0 _ _ (0, 0) h, cell_of_row w g0 1 _ _ (0, 0) h, cell_of_row w g0 2 _ _ (0, 0) h⟩
theorem PlAt.cell {w : World} {g1 n : Nat} {s : Ju.St} (h : PlAt w g1 n s) (j : Nat) (hj : j < 3 * (n + 1)) : w.cell? ⟨g1, j, none⟩ = some (cellOf s j) := by
  rw [cell_of_row w g1 j _ _ (0, 0) h, pl_get n s j hj]
theorem PlAt.frozen {w : World} {g1 n : Nat} {s : Ju.St} (h : PlAt w g1 n s) (j : Nat) : w.frozen? ⟨g1, j, none⟩ = false := by simp [World.frozen?, show w.heap[g1]? = _ from h]
theorem _root_.Go.World.grownBy.set_ {w W : World} {g : Nat} (h : w.grownBy W (some g)) (j' : Nat) (v : Value) : w.grownBy (W.setCell ⟨g, j', none⟩ v) (some g) :=
  ⟨h.os, h.tape, h.output, by simpa using h.size, fun k hk hne => by
    rw [heap_setCell_other _ _ _ _ (fun e => hne (by rw [e]))]
    exact h.block k hk hne⟩
theorem _root_.Go.World.grownBy.alloc_ {w W : World} {r : Option Nat} (h : w.grownBy W r) (o : Obj) : w.grownBy (W.alloc o) r :=
  ⟨h.os, h.tape, h.output, by have := h.size; simp; omega, fun k hk hne => by
    rw [heap_alloc_old _ _ (Nat.lt_of_lt_of_le hk h.size)]
    exact h.block k hk hne⟩
theorem _root_.Go.World.grownBy.drew_ {w W : World} {r : Option Nat} (h : w.grownBy W r) : w.grownBy W.drew r :=
  ⟨h.os, h.tape, h.output, h.size, h.block⟩
set_option maxRecDepth 100000 in
set_option maxHeartbeats 4000000 in
theorem jcome (n t : Nat) (d f : Int) (s : Ju.St) (g0 g1 : Nat) (top fu : Int) (w : World) (ht : t ≤ n) (_hn : n ≤ 600) (h0 : WkAt w g0 g1 n top fu) (h1 : PlAt w g1 n s) :
    Calls Try.prog 24 #[.pointer (some ⟨g0, 0, none⟩), .int .i64 t, .int .i64 d, .int .i64 f] w fun e w' => e = .returned (.bool (Ju.come s t d f).isSome) ∧ w.grownBy w' (some g1) ∧ PlAt w' g1 n ((Ju.come s t d f).getD s) := by
  obtain ⟨k0, _, _⟩ := h0.cell
  have c0 := h1.cell (t * 3) (by omega)
  have c1 := h1.cell (t * 3 + 1) (by omega)
  have c2 := h1.cell (t * 3 + 2) (by omega)
  have z0 := h1.frozen (t * 3)
  have z1 := h1.frozen (t * 3 + 1)
  have z2 := h1.frozen (t * 3 + 2)
  have HH := Lib.hid h1
  have r0 : (0 : Int) ≤ t := by omega
  have r1 : (t : Int) < (n : Int) + 1 := by omega
  have hlt0 : g0 < w.heap.size := (Array.getElem?_eq_some_iff.1 h0).1
  have hlt1 : g1 < w.heap.size := (Array.getElem?_eq_some_iff.1 h1).1
  cases hs : s t with
  | none =>
    obtain ⟨e0, e1, e2⟩ := cellOf_none hs
    rw [e0] at c0
    rw [e1] at c1
    rw [e2] at c2
    have HC : Hid (Ju.come s t d f = some (Ju.upd s t (d, f))) := by unfold RowKit.Hid Ju.come; rw [hs]
    rw [HC.out]
    have HS := Lib.hid (pl_set3 n s t d f)
    clear h0 h1 e0 e1 e2 hs
    go_enter Try.func24, Try.ntmps24
    go_wp2_with fail
    go_ret
    refine ⟨rfl, ?_, ?_⟩
    · exact ((((World.grownBy.refl w _).set_ _ _).set_ _ _).set_ _ _).alloc_ _
    · refine (heap_alloc_old _ _ (by simpa using hlt1)).trans ?_
      have q0 := heap_setCell_same _ g1 (t * 3) _ _ (.bool true) HH.out
      have q1 := heap_setCell_same _ g1 (t * 3 + 1) _ _ (.int .i64 d) q0
      have q2 := heap_setCell_same _ g1 (t * 3 + 2) _ _ (.int .i64 f) q1
      rw [HS.out] at q2
      exact q2
  | some v =>
    obtain ⟨dv, fv⟩ := v
    obtain ⟨e0, e1, e2⟩ := cellOf_some hs
    rw [e0] at c0
    rw [e1] at c1
    rw [e2] at c2
    dsimp only at c1 c2
    by_cases hd : dv = d
    · subst hd
      have HC : Hid (Ju.come s t dv f = some (Ju.upd s t (dv, max fv f))) := by unfold RowKit.Hid Ju.come; rw [hs]; simp
      rw [HC.out]
      have HS := Lib.hid (pl_set1 n s t dv fv (max fv f) hs)
      clear h0 h1 e0 e1 e2 hs
      by_cases hcmp : fv < f
      · have e : max fv f = f := by rw [Int.max_def]; split <;> omega
        have q2 := heap_setCell_same _ g1 (t * 3 + 2) _ _ (.int .i64 (max fv f)) HH.out
        rw [HS.out, e] at q2
        have HQ2 := Lib.hid q2
        rw [e]
        clear q2 e HS
        go_enter Try.func24, Try.ntmps24
        go_wp2_with fail
        go_big_region
        go_wp2_with fail
        go_ret
        exact ⟨rfl, (((World.grownBy.refl w _).set_ _ _).alloc_ _).drew_, (heap_alloc_old _ _ (by simpa using hlt1)).trans HQ2.out⟩
      · have e : max fv f = fv := by rw [Int.max_def]; split <;> omega
        have q2 := heap_setCell_same _ g1 (t * 3 + 2) _ _ (.int .i64 (max fv f)) HH.out
        rw [HS.out, e] at q2
        have HQ2 := Lib.hid q2
        rw [e]
        clear q2 e HS
        go_enter Try.func24, Try.ntmps24
        go_wp2_with fail
        go_big_region
        go_wp2_with fail
        go_ret
        exact ⟨rfl, (((World.grownBy.refl w _).set_ _ _).alloc_ _).drew_, (heap_alloc_old _ _ (by simpa using hlt1)).trans HQ2.out⟩
    · have HC : Hid (Ju.come s t d f = none) := by unfold RowKit.Hid Ju.come; rw [hs]; simp [hd]
      rw [HC.out]
      clear h0 h1 e0 e1 e2 hs
      go_enter Try.func24, Try.ntmps24
      go_wp2_with fail
      go_ret
      exact ⟨rfl, (World.grownBy.refl w _).alloc_ _, (heap_alloc_old _ _ hlt1).trans HH.out⟩
end Go.Proofs.Ytlfbpcjeohbfkaa
