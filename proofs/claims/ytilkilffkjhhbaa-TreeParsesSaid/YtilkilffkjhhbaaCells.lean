/-
  A store of a number into one cell of a row that is known whole, and a load of one: the world behind it is a letter.
  A region that draws its order and stores into one row that is there already; every other operation's value is the same in whatever order.
-/
import Derived.Test.YtilkilffkjhhbaaBytes
import Derived.Test.YtilkilffkjhhbaaRgn
namespace Go.Proofs.Ytilkilffkjhhbaa.Mem
set_option maxRecDepth 20000
set_option linter.unusedVariables false
open Go.RowKit

theorem run_store1 {P : Program} (w : World) (ty : TypeId) (g j : Nat) (k : IntKind) (n : Int) {cs : Array Value} {t : TypeId} (hg : w.heap[g]? = some (.cells cs t (0, 0))) (hj : j < cs.size) (hi : (P.info? ty).map (·.size) = some 1) :
    (storeVar ty ⟨g, j, none⟩ (.int k n)).run P w = .ok () (w.setCell ⟨g, j, none⟩ (.int k n)) := by
  have hc : w.cell? ⟨g, j, none⟩ = some cs[j] := by rw [cell_of_row w g j _ _ (0, 0) hg, Array.getElem?_eq_getElem hj]
  have hf := frozen_of_row w g j _ _ hg
  cases hq : P.info? ty with
  | none => simp [hq] at hi
  | some i =>
    have hs : i.size = 1 := by simpa [hq] using hi
    simp [storeVar, sizeOf, typeInfo, hq, Value.cells, hs, storeCells, stored, hc, hf, go_sem, Addr.add]
theorem wpList_store1 {P : Program} {ops : Array Oper} {rest : List Oper} {o : Oper} {a : Act} {w : World} {Q : Exit → Act → World → Prop} (hgd : o.guard = none) (ty : TypeId) (x y : Operand) (ho : o.op = .store ty x y)
    (g j : Nat) (k : IntKind) (n : Int) (hx : a.eval x = .pointer (some ⟨g, j, none⟩)) (hy : a.eval y = .int k n)
    {cs : Array Value} {t : TypeId} (hg : w.heap[g]? = some (.cells cs t (0, 0))) (hj : j < cs.size) (hi : (P.info? ty).map (·.size) = some 1)
    (h : ∀ w', w'.heap[g]? = some (.cells (cs.setIfInBounds j (.int k n)) t (0, 0)) → w.grownBy w' (some g) → wpList P ops Q rest (a.put o.dst undef) w') : wpList P ops Q (o :: rest) a w :=
  wpList_plain hgd fun _ hK => by
    unfold Oper.wp execOp
    simp only [ho, hx, hy, Instr.storeAt, Instr.sureAddr, Sem.run_bind, Sem.run_pure, Result.andThen_ok, run_store1 w ty g j k n hg hj hi]
    exact hK _ _ (h _ (heap_setCell_same w g j cs t (.int k n) hg) (grown_setCell w g j (.int k n)))
theorem below_by {B : Nat} {W0 w w' : World} {g : Nat} (h : Below B W0 w) (hg : w.grownBy w' (some g)) (hs : B ≤ w.heap.size) (hB : B ≤ g) : Below B W0 w' :=
  h.grown hg hs (fun b hb => by injection hb; omega)
theorem other_by {w w' : World} {g i : Nat} (hg : w.grownBy w' (some g)) (hi : i ≠ g) {o : Obj} (ho : w.heap[i]? = some o) : w'.heap[i]? = some o :=
  (hg.block i (Array.getElem?_eq_some_iff.1 ho).1 (fun e => hi (Option.some.inj e))).trans ho
theorem own_apart {w w' : World} {B size n : Nat} {e : TypeId} {vx vy : Value} {ys : List Value} (hy : w.ownsRow B e size vy n ys) (hx : ∀ k, vx.ownBlock = some k → k < B) (hg : w.grownBy w' vx.ownBlock) : w'.ownsRow B e size vy n ys := by
  refine hy.kept hg ?_
  rcases hb : vy.ownBlock with _ | k
  · exact .inl rfl
  · right
    intro h
    have h1 := (hy.lt k hb).1
    have h2 := hx k h.symm
    omega
end Go.Proofs.Ytilkilffkjhhbaa.Mem
namespace Go.Proofs.Ytilkilffkjhhbaa.Mem
set_option maxRecDepth 20000
set_option linter.unusedVariables false
open Go.RowKit

theorem grown_of_below {w w' : World} (h : Below w.heap.size w w') (row : Option Nat) : w.grownBy w' row := ⟨h.os, h.tape, h.output, h.size, fun k hk _ => h.block k hk⟩
theorem grown_below {w w' : World} {g : Nat} (h : w.grownBy w' (some g)) (hg : g ≤ w.heap.size) : Below g w w' := below_of_grown h hg (fun _ e => by injection e with e; omega)
theorem grown_setRow (w : World) (g : Nat) (cs : Array Value) : w.grownBy (w.setRow g cs) (some g) := ⟨rfl, rfl, rfl, by simp, fun k _ hk => setRow_other w g k _ (fun e => hk (by rw [e]))⟩
/-- what holds while such a statement is carried out -/
structure Rs (W0 : World) (a0 : Act) (slots : List (Nat × Nat)) (val : Nat → Value) (g si : Nat) (t : TypeId) (V : Array Value) (L : Array Bool) (a : Act) (w : World) : Prop where
  sz : a.tmps.size = a0.tmps.size
  df : a.defers = a0.defers
  rest : ∀ j, (slots.map (·.2)).contains j = false → a.tmps[j]? = a0.tmps[j]?
  grown : W0.grownBy w (some g)
  f : ∀ p ∈ slots, L.getD p.1 false = true → a.eval (.tmp p.2) = val p.1
  row : ∃ Z : Array Value, w.heap[g]? = some (.cells Z t (0, 0)) ∧ Z.size = V.size ∧ (L.getD si false = true → Z = V)
section
variable {W0 : World} {a0 : Act} {slots : List (Nat × Nat)} {val : Nat → Value} {g si : Nat} {t : TypeId} {V : Array Value} {L : Array Bool} {a : Act} {w : World}
theorem Rs.get (h : Rs W0 a0 slots val g si t V L a w) (i d : Nat) (hm : (i, d) ∈ slots) (hL : L.getD i false = true) : a.eval (.tmp d) = val i := h.f _ hm hL
theorem Rs.old (h : Rs W0 a0 slots val g si t V L a w) {j : Nat} (hj : (slots.map (·.2)).contains j = false) : a.eval (.tmp j) = a0.eval (.tmp j) := by
  simp only [Act.eval, Array.getD_eq_getD_getElem?, h.rest j hj]
end
theorem region_put {P : Program} {ops : Array Oper} {Q : Exit → Act → World → Prop} (hdep : depOk ops = true) (W0 : World) (a0 : Act) (slots : List (Nat × Nat)) (val : Nat → Value) (g si sv sd ms : Nat) (t ty : TypeId) (V : Array Value)
    (ok : slotsFix slots a0.tmps.size = true) (hsi : slots.all (fun p => p.1 != si) = true) (hall : slots.all (fun p => decide (p.1 < ops.size)) = true) (n : Nat) (hn : ops.size = n) (hsn : si < n)
    (hstore : ∃ o, ops[si]? = some o ∧ o.guard = none ∧ o.dst = none ∧ o.op = .store ty (.tmp ms) (.tmp sd)) (hsm : (sv, sd) ∈ slots) (hms : (slots.map (·.2)).contains ms = false) (e0 : a0.eval (.tmp ms) = .pointer (some ⟨g, 0, none⟩)) (hval : val sv = .agg V)
    (hi : (P.info? ty).map (·.size) = some V.size) (hV1 : V.all (·.oneCell') = true) (hrow : ∃ Z : Array Value, W0.heap[g]? = some (.cells Z t (0, 0)) ∧ Z.size = V.size)
    (hsneed : ((ops[si]?).map fun o => o.after.any fun e => Region.binds .any e && e.on == sv) = some true)
    (step : ∀ i L a w, Rs W0 a0 slots val g si t V L a w → i < n → i ≠ si → (∀ on, ((ops[i]?).map fun o => o.after.any fun e => Region.binds .any e && e.on == on) = some true → L.getD on false = true) → FixOp P ops Q val slots i a w)
    (hQ : ∀ w, W0.grownBy w (some g) → w.heap[g]? = some (.cells V t (0, 0)) → Q .normal (slots.foldl (fun x p => x.put (some p.2) (val p.1)) a0) w) :
    wpAny P .any ops Q n (Array.replicate n false) a0 W0.drew := by
  subst hn
  obtain ⟨Z0, hZ0, hZs⟩ := hrow
  refine wpAny_gen (Rs W0 a0 slots val g si t V) hdep ?_ ?_ ops.size _ a0 W0.drew (by simp) (by simp) ⟨rfl, rfl, fun _ _ => rfl, grown_of_below (Below.refl _ _).drew _, fun p _ hL => ?_, Z0, hZ0, hZs, fun hL => ?_⟩
  · intro i L a w h hL hi' hf hneed
    by_cases e2 : i = si
    · subst e2
      obtain ⟨o, ho, hg, hd, hop⟩ := hstore
      have h1 := (h.get sv sd hsm (hneed sv hsneed)).trans hval
      obtain ⟨Z, k3, k4, k5⟩ := h.row
      refine wpOp_of ho hg (wp_store_row _ _ _ hop g _ ((h.old hms).trans e0) h1 _ _ k3 hi k4 hV1 ?_)
      rw [hd]
      refine ⟨h.sz, h.df, h.rest, World.grownBy.trans h.grown (grown_setRow _ _ _), fun p hp hL => ?_, V, setRow_heap w g Z _ _ (0, 0) k3, rfl, fun _ => rfl⟩
      have hne : p.1 ≠ i := by
        have := List.all_eq_true.1 hsi p hp
        simpa using this
      rw [getD_set_ne hne] at hL
      exact h.f p hp hL
    · obtain ⟨d, hm, hw⟩ := step i L a w h hi' e2 hneed
      refine wpOp_mono ?_ hw
      rintro a' w' ⟨rfl, hb⟩
      have hk := List.all_eq_true.1 ok _ hm
      simp only [Bool.and_eq_true, decide_eq_true_eq] at hk
      obtain ⟨k5, k6⟩ := hk
      refine ⟨(Act.size_put _ _ _).trans h.sz, (Act.defers_put' _ _ _).trans h.df, fun j hj => ?_, World.grownBy.trans h.grown (grown_of_below hb _), fun p hp hLp => ?_, ?_⟩
      · rw [← h.rest j hj]
        show (a.tmps.setIfInBounds d _)[j]? = _
        rw [Array.getElem?_setIfInBounds_ne]
        intro e
        subst e
        have : (slots.map (·.2)).contains d = true := by rw [List.contains_iff_mem]; exact List.mem_map.2 ⟨_, hm, rfl⟩
        rw [this] at hj
        cases hj
      · have hq := List.all_eq_true.1 k6 p hp
        by_cases hi : p.1 = i
        · have hd2 : p.2 = d := by
            have : (i == p.1) = true := by simp [hi]
            rw [this] at hq
            have : (d == p.2) = true := by simpa using hq
            exact (beq_iff_eq.1 this).symm
          rw [hi, hd2]
          exact Act.eval_put_same _ _ _ (by rw [h.sz]; exact k5)
        · have hd2 : d ≠ p.2 := by
            intro e
            have h1 : (i == p.1) = false := by simpa using fun e => hi e.symm
            have h2 : (d == p.2) = true := by simp [e]
            simp only [h1, h2] at hq
            cases hq
          rw [getD_set_ne hi] at hLp
          exact (Act.eval_put_ne _ d p.2 _ hd2).trans (h.f p hp hLp)
      · obtain ⟨Z, k3, k4, k5⟩ := h.row
        exact ⟨Z, (hb.block _ (lt_heap k3)).trans k3, k4, fun hL => k5 (by rwa [getD_set_ne (fun x => e2 x.symm)] at hL)⟩
  · intro L a w hL hL2 h
    obtain ⟨Z, k3, k4, k5⟩ := h.row
    obtain rfl := k5 (hL2 _ hsn)
    have e := put_form (slots.map (·.2)) a0 h.sz h.df (fun j hj => h.rest j (by
      cases hc : (slots.map (·.2)).contains j with
      | false => rfl
      | true => exact absurd (List.contains_iff_mem.1 hc) hj))
    have hall' : ∀ p ∈ slots, a.eval (.tmp p.2) = val p.1 := fun p hp => h.f p hp (hL2 _ (by simpa using List.all_eq_true.1 hall p hp))
    rw [e, foldl_vals a val slots a0 hall']
    exact hQ w h.grown k3
  · simp [Array.getD] at hL
  · simp [Array.getD] at hL
theorem x_slice_row {P : Program} {a : Act} {w : World} {o : Oper} {x : Operand} {t : TypeId} {g m : Nat} (ho : o.op = .slice t x none none none) (hx : a.eval x = .pointer (some ⟨g, 0, none⟩)) (hr : (Instr.sliceAt t (.pointer (some ⟨g, 0, none⟩)) none none none).run P w = .ok (.slice (some ⟨g, 0, none⟩) m m) w) : (execOp a.eval o).run P w = .ok (.value (.slice (some ⟨g, 0, none⟩) m m)) w := by
  unfold execOp
  simp only [ho, hx, Option.map_none]
  rw [Sem.run_bind, hr]
  rfl
end Go.Proofs.Ytilkilffkjhhbaa.Mem
