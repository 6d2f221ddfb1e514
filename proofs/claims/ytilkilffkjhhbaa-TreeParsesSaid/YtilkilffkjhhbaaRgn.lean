/-
  A region that draws its order, by an invariant: each operation is met once, whatever was done before it.
  A region that draws its order and makes one row of memory at most: its operations are met one by one, whatever was done before each.
  A region that draws its order and stores nothing: each operation's value is the same in whatever order; guards are met too.
  A region that draws its order, some of whose operations make, store or yield what no value names: an invariant over these, the other values are fixed.
  A region that draws its order, some of whose operations make, store or yield what no value names; the frame is part of the invariant.
  A region that draws its order, makes one row and stores into it; every other operation's value is the same in whatever order.
-/
import Derived.Test.YtilkilffkjhhbaaMem
import Derived.Orders
import Derived.RegionTactic
import Derived.Laws.Tables
import Derived.Great.Frames
import Derived.Deep.DeepCutAuto
import Derived.Deep.MidRow
import Derived.Laws.StructEq
namespace Go.Proofs.Ytilkilffkjhhbaa.Mem
set_option maxRecDepth 20000
set_option linter.unusedVariables false
open Go.RowKit

/-- the operations of a region, by its number -/
def findOps (n : Nat) : Code → Array Oper
  | .region id ops _ => if id = n then ops else #[]
  | .seq a b => if (findOps n a).isEmpty then findOps n b else findOps n a
  | .cond _ a b => if (findOps n a).isEmpty then findOps n b else findOps n a
  | .block _ c => findOps n c
  | .loop c => findOps n c
  | .scope c => findOps n c
  | _ => #[]
theorem wpAny_inv {P : Program} {md : Region.Mode} {ops : Array Oper} {Q : Exit → Act → World → Prop} (I : Nat → Array Bool → Act → World → Prop)
    (h0 : ∀ L a w, I 0 L a w → Region.ready md ops L = [] ∧ Q .normal a w)
    (hs : ∀ f L a w, I (f + 1) L a w → Region.ready md ops L ≠ [] ∧ ∀ i ∈ Region.ready md ops L, wpOp P ops Q i (I f (L.setIfInBounds i true)) a w) :
    ∀ f L a w, I f L a w → wpAny P md ops Q f L a w
  | 0, L, a, w, h => h0 L a w h
  | f + 1, L, a, w, h => ⟨fun e => absurd e (hs f L a w h).1, fun i hi => wpOp_mono (fun a w h => wpAny_inv I h0 hs f _ a w h) ((hs f L a w h).2 i hi)⟩
theorem wpOp_of {P : Program} {ops : Array Oper} {Q : Exit → Act → World → Prop} {i : Nat} {K : Act → World → Prop} {a : Act} {w : World} {o : Oper} (hi : ops[i]? = some o) (hg : o.guard = none)
    (h : o.wp P a w K Q) : wpOp P ops Q i K a w := by
  unfold wpOp
  rw [hi]
  simp only [Region.wanted, hg, if_true]
  exact .inl h
section
variable {P : Program} {o : Oper} {a : Act} {w : World} {K : Act → World → Prop} {Q : Exit → Act → World → Prop}
theorem wp_move_ (x : Operand) (ho : o.op = .move x) (h : K (a.put o.dst (a.eval x)) w) : o.wp P a w K Q := by
  unfold Oper.wp execOp
  simp only [ho]
  exact h
theorem wp_alloc_ (t : TypeId) (Z : Array Value) (ho : o.op = .alloc t) (hr : (Instr.alloc t true (.tuple #[])).run P w = .ok (.pointer (some ⟨w.heap.size, 0, none⟩)) (w.alloc (.cells Z t)))
    (h : K (a.put o.dst (.pointer (some ⟨w.heap.size, 0, none⟩))) (w.alloc (.cells Z t))) : o.wp P a w K Q := by
  unfold Oper.wp execOp
  simp only [ho, Sem.run_bind, hr, Result.andThen_ok, Sem.run_pure]
  exact h
theorem wp_call_ (f : FuncId) (xs : Array Operand) (ts : Array TypeId) (vs : Array Value) (_ho : o.op = .call { callee := .value (.func f), args := xs, argTypes := ts }) (_hv : xs.map a.eval = vs)
    (hr : ∀ wx : World, (execOp a.eval o).run P wx = .ok (.enter f vs) wx)
    (h : Calls P f vs w fun e w' => ∃ v, e = .returned v ∧ K (a.put o.dst v) w') : o.wp P a w K Q := by
  unfold Oper.wp
  rw [hr w, Oper.upon_enter]
  refine h.mono ?_
  rintro e w' ⟨v, rfl, hk⟩
  exact hk
end
end Go.Proofs.Ytilkilffkjhhbaa.Mem
namespace Go.Proofs.Ytilkilffkjhhbaa.Mem
set_option maxRecDepth 20000
set_option linter.unusedVariables false
open Go.RowKit

theorem ready_parts {md : Region.Mode} {ops : Array Oper} {L : Array Bool} {i : Nat} : i ∈ Region.ready md ops L ↔ i < ops.size ∧ L.getD i true = false ∧
    ((ops[i]?).map fun o => o.after.all fun e => !Region.binds md e || L.getD e.on false) = some true := by
  unfold Region.ready
  rw [List.mem_filter, List.mem_range]
  refine and_congr_right fun h1 => ?_
  rw [Array.getElem?_eq_getElem h1, Bool.and_eq_true, Bool.not_eq_true']
  simp
def depOk (ops : Array Oper) : Bool := (List.range ops.size).all fun i => ((ops[i]?).map fun o => o.after.all fun e => !Region.binds .any e || decide (e.on < i)).getD true
theorem getD_two {L : Array Bool} {i : Nat} (h : i < L.size) : L.getD i true = L.getD i false := by simp [Array.getD, h]
theorem count_set {l : List Bool} {i : Nat} (h : l[i]? = some false) : (l.set i true).count false + 1 = l.count false := by
  induction l generalizing i with
  | nil => simp at h
  | cons b l ih =>
    cases i with
    | zero => simp at h; subst h; simp
    | succ i =>
      have h' : l[i]? = some false := by simpa using h
      have := ih h'
      simp only [List.set_cons_succ, List.count_cons]
      omega
theorem wpAny_gen {P : Program} {ops : Array Oper} {Q : Exit → Act → World → Prop} (J : Array Bool → Act → World → Prop) (hdep : depOk ops = true)
    (step : ∀ i L a w, J L a w → L.size = ops.size → i < ops.size → L.getD i false = false →
      (∀ on, ((ops[i]?).map fun o => o.after.any fun e => Region.binds .any e && e.on == on) = some true → L.getD on false = true) →
      wpOp P ops Q i (J (L.setIfInBounds i true)) a w)
    (hQ : ∀ L a w, L.size = ops.size → (∀ i, i < ops.size → L.getD i false = true) → J L a w → Q .normal a w) (f : Nat) (L : Array Bool) (a : Act) (w : World)
    (hL : L.size = ops.size) (hf : f = L.toList.count false) (hJ : J L a w) : wpAny P .any ops Q f L a w := by
  refine wpAny_inv (fun f L a w => L.size = ops.size ∧ f = L.toList.count false ∧ J L a w) ?_ ?_ f L a w ⟨hL, hf, hJ⟩
  · rintro L a w ⟨hL, hf, hJ⟩
    have hall : ∀ i, i < ops.size → L.getD i false = true := by
      intro i hi
      have hm : L[i]'(by omega) ∈ L.toList := by simp
      cases hb : L[i]'(by omega) with
      | true => simp [Array.getD, hL, hi, hb]
      | false =>
        rw [hb] at hm
        have := List.count_pos_iff.2 hm
        omega
    refine ⟨?_, hQ L a w hL hall hJ⟩
    rw [List.eq_nil_iff_forall_not_mem]
    intro i hi
    obtain ⟨h1, h2, _⟩ := ready_parts.1 hi
    rw [getD_two (by omega), hall i h1] at h2
    cases h2
  · rintro f L a w ⟨hL, hf, hJ⟩
    constructor
    · have hex : ∃ i, i < ops.size ∧ L.getD i false = false := by
        have : false ∈ L.toList := List.count_pos_iff.1 (by omega)
        obtain ⟨i, hi, he⟩ := List.getElem_of_mem this
        have hi' : i < L.size := by simpa using hi
        refine ⟨i, by omega, ?_⟩
        simp only [Array.getElem_toList] at he
        simp [Array.getD, hi', he]
      obtain ⟨i, ⟨hi, hif⟩, hmin⟩ : ∃ i, (i < ops.size ∧ L.getD i false = false) ∧ ∀ j, j < i → ¬ (j < ops.size ∧ L.getD j false = false) := by
        obtain ⟨i, hi⟩ := hex
        induction i using Nat.strongRecOn with
        | _ i ih =>
          by_cases hx : ∃ j, j < i ∧ (j < ops.size ∧ L.getD j false = false)
          · obtain ⟨j, hj, hp⟩ := hx
            exact ih j hj hp
          · exact ⟨i, hi, fun j hj hp => hx ⟨j, hj, hp⟩⟩
      intro e
      have : i ∈ Region.ready .any ops L := by
        refine ready_parts.2 ⟨hi, (getD_two (by omega)).trans hif, ?_⟩
        rw [Array.getElem?_eq_getElem hi]
        simp only [Option.map_some, Option.some.injEq]
        rw [Array.all_eq_true_iff_forall_mem]
        intro x hx
        have hd : ((ops[i]?).map fun o => o.after.all fun e => !Region.binds .any e || decide (e.on < i)).getD true = true := List.all_eq_true.1 hdep i (List.mem_range.2 hi)
        rw [Array.getElem?_eq_getElem hi] at hd
        simp only [Option.map_some, Option.getD_some] at hd
        have hlt := Array.all_eq_true_iff_forall_mem.1 hd x hx
        rcases Bool.or_eq_true_iff.1 hlt with hb0 | hlt
        · rw [hb0]; rfl
        have hlt : x.on < i := by simpa using hlt
        have hne := hmin _ hlt
        have : L.getD x.on false = true := by
          cases hb : L.getD x.on false with
          | true => rfl
          | false => exact absurd ⟨by omega, hb⟩ hne
        rw [this]; simp
      rw [e] at this
      cases this
    · intro i hi
      obtain ⟨h1, h2, h3⟩ := ready_parts.1 hi
      have hlt : i < L.size := by omega
      rw [getD_two hlt] at h2
      have hset : (L.setIfInBounds i true).toList = L.toList.set i true := Array.toList_setIfInBounds ..
      have hget : L.toList[i]? = some false := by
        have : L.getD i false = L[i]'hlt := by simp [Array.getD, hlt]
        rw [this] at h2
        rw [Array.getElem?_toList, Array.getElem?_eq_getElem hlt, h2]
      refine wpOp_mono (fun a w h => ⟨by simpa using hL, ?_, h⟩) (step i L a w hJ hL h1 h2 ?_)
      · rw [hset]; have := count_set hget; omega
      · intro on hon
        rw [Array.getElem?_eq_getElem h1] at h3 hon
        simp only [Option.map_some, Option.some.injEq] at h3 hon
        obtain ⟨e, he, hb⟩ := Array.any_eq_true'.1 hon
        rw [Bool.and_eq_true] at hb
        have := Array.all_eq_true_iff_forall_mem.1 h3 e he
        rw [hb.1] at this
        have e2 : e.on = on := by simpa using hb.2
        rw [← e2]
        simpa using this
theorem getD_set {L : Array Bool} {i : Nat} (hi : i < L.size) (j : Nat) : (L.setIfInBounds i true).getD j false = if j = i then true else L.getD j false := by
  by_cases h : j = i
  · subst h; simp [Array.getD, hi]
  · rw [if_neg h]
    simp only [Array.getD_eq_getD_getElem?]
    rw [Array.getElem?_setIfInBounds_ne (fun e => h e.symm)]
theorem getD_set_ne {L : Array Bool} {i j : Nat} (h : j ≠ i) : (L.setIfInBounds i true).getD j false = L.getD j false := by
  simp only [Array.getD_eq_getD_getElem?]
  rw [Array.getElem?_setIfInBounds_ne (fun e => h e.symm)]
theorem lt_heap {w : World} {g : Nat} {o : Obj} (h : w.heap[g]? = some o) : g < w.heap.size := (Array.getElem?_eq_some_iff.1 h).1
theorem below_setRow_ {B : Nat} {a w : World} {g : Nat} {cs : Array Value} (h : Below B a w) (hg : B ≤ g) : Below B a (w.setRow g cs) :=
  ⟨h.os, h.tape, h.output, by simpa using h.size, fun k hk => by rw [setRow_other _ _ _ _ (by omega)]; exact h.block k hk⟩
/-- what holds while a statement is carried out: slots whose value no order changes, and one row made on the way -/
structure Rg (W0 : World) (a0 : Act) (own : Nat → Bool) (slots : List (Nat × Nat)) (val : Nat → Value) (mi md si : Nat) (t : TypeId) (n : Nat) (V : Array Value) (L : Array Bool) (a : Act) (w : World) : Prop where
  sz : a.tmps.size = a0.tmps.size
  df : a.defers = a0.defers
  rest : ∀ j, own j = false → a.tmps[j]? = a0.tmps[j]?
  below : Below W0.heap.size W0 w
  f : ∀ p ∈ slots, L.getD p.1 false = true → a.eval (.tmp p.2) = val p.1
  m : L.getD mi false = true → ∃ g, a.eval (.tmp md) = .pointer (some ⟨g, 0, none⟩) ∧ W0.heap.size ≤ g ∧ ∃ Z : Array Value, w.heap[g]? = some (.cells Z t (0, 0)) ∧ Z.size = n ∧ (L.getD si false = true → Z = V)
  o : L.getD si false = true → L.getD mi false = true
section
variable {W0 : World} {a0 : Act} {own : Nat → Bool} {slots : List (Nat × Nat)} {val : Nat → Value} {mi md si : Nat} {t : TypeId} {n : Nat} {V : Array Value} {L : Array Bool} {a : Act} {w : World}
theorem Rg.world (h : Rg W0 a0 own slots val mi md si t n V L a w) {w' : World} (hb : Below w.heap.size w w') : Rg W0 a0 own slots val mi md si t n V L a w' :=
  ⟨h.sz, h.df, h.rest, h.below.trans (hb.mono h.below.size), h.f, fun e => by
    obtain ⟨g, h1, h2, Z, h3, h4⟩ := h.m e
    exact ⟨g, h1, h2, Z, (hb.block _ (lt_heap h3)).trans h3, h4⟩, h.o⟩
theorem Rg.get (h : Rg W0 a0 own slots val mi md si t n V L a w) (i d : Nat) (hm : (i, d) ∈ slots) (hL : L.getD i false = true) : a.eval (.tmp d) = val i := h.f _ hm hL
theorem Rg.old (h : Rg W0 a0 own slots val mi md si t n V L a w) {j : Nat} (hj : own j = false) : a.eval (.tmp j) = a0.eval (.tmp j) := by
  simp only [Act.eval, Array.getD_eq_getD_getElem?, h.rest j hj]
theorem put_rest {a0 a : Act} {own : Nat → Bool} (h : ∀ j, own j = false → a.tmps[j]? = a0.tmps[j]?) {d : Nat} (hd : own d = true) (v : Value) : ∀ j, own j = false → (a.put (some d) v).tmps[j]? = a0.tmps[j]? := fun j hj => by
  rw [← h j hj]
  show (a.tmps.setIfInBounds d v)[j]? = _
  rw [Array.getElem?_setIfInBounds_ne]
  intro e
  rw [e, hj] at hd
  cases hd
/-- the choice of slots is sound: each written once, none of them the row's -/
def slotsOk (own : Nat → Bool) (slots : List (Nat × Nat)) (mi md si size : Nat) : Bool :=
  slots.all (fun p => own p.2 && p.1 != mi && p.1 != si && p.2 != md && decide (p.2 < size) && slots.all (fun q => (p.1 == q.1) == (p.2 == q.2))) && own md && mi != si && decide (md < size)
theorem Rg.put (h : Rg W0 a0 own slots val mi md si t n V L a w) (ok : slotsOk own slots mi md si a0.tmps.size = true) (i d : Nat) (hm : (i, d) ∈ slots) :
    Rg W0 a0 own slots val mi md si t n V (L.setIfInBounds i true) (a.put (some d) (val i)) w := by
  unfold slotsOk at ok
  simp only [Bool.and_eq_true] at ok
  obtain ⟨⟨⟨ok, okd⟩, okm⟩, okz⟩ := ok
  have hk := List.all_eq_true.1 ok _ hm
  simp only [Bool.and_eq_true, bne_iff_ne, ne_eq, decide_eq_true_eq] at hk
  obtain ⟨⟨⟨⟨⟨k1, k2⟩, k3⟩, k4⟩, k5⟩, k6⟩ := hk
  refine ⟨(Act.size_put _ _ _).trans h.sz, (Act.defers_put' _ _ _).trans h.df, put_rest h.rest k1 _, h.below, fun p hp hL => ?_, fun e => ?_, fun e => ?_⟩
  · have hq := List.all_eq_true.1 k6 p hp
    by_cases hi : p.1 = i
    · have hd2 : p.2 = d := by
        have : (i == p.1) = true := by simp [hi]
        rw [this] at hq
        have : (d == p.2) = true := by simpa using hq
        exact (beq_iff_eq.1 this).symm
      rw [hi, hd2]
      exact Act.eval_put_same _ _ _ (by rw [h.sz]; exact k5)
    · have hd2 : d ≠ p.2 := by
        intro e
        have h1 : (i == p.1) = false := by simpa using fun e => hi e.symm
        have h2 : (d == p.2) = true := by simp [e]
        simp only [h1, h2] at hq
        cases hq
      rw [getD_set_ne hi] at hL
      exact (Act.eval_put_ne _ d p.2 _ hd2).trans (h.f p hp hL)
  · rw [getD_set_ne (fun x => k2 x.symm)] at e
    obtain ⟨g, h1, h2, Z, h3, h4, h5⟩ := h.m e
    exact ⟨g, (Act.eval_put_ne _ d md _ k4).trans h1, h2, Z, h3, h4, fun x => h5 (by rwa [getD_set_ne (fun y => k3 y.symm)] at x)⟩
  · rw [getD_set_ne (fun x => k2 x.symm)]
    exact h.o (by rwa [getD_set_ne (fun y => k3 y.symm)] at e)
theorem Rg.made (h : Rg W0 a0 own slots val mi md si t n V L a w) (ok : slotsOk own slots mi md si a0.tmps.size = true) (hf : L.getD mi false = false) (Z : Array Value) (hZ : Z.size = n) :
    Rg W0 a0 own slots val mi md si t n V (L.setIfInBounds mi true) (a.put (some md) (.pointer (some ⟨w.heap.size, 0, none⟩))) (w.alloc (.cells Z t)) := by
  have h' := h.world (w' := w.alloc (.cells Z t)) ((Below.refl _ _).alloc (Nat.le_refl _) _)
  unfold slotsOk at ok
  simp only [Bool.and_eq_true] at ok
  obtain ⟨⟨⟨ok, okd⟩, okm⟩, okz⟩ := ok
  have okm : mi ≠ si := by simpa using okm
  have hsf : L.getD si false = false := by
    cases hx : L.getD si false with
    | false => rfl
    | true => have := h.o hx; rw [hf] at this; cases this
  refine ⟨(Act.size_put _ _ _).trans h.sz, (Act.defers_put' _ _ _).trans h.df, put_rest h.rest okd _, h'.below, fun p hp hL => ?_, fun e => ?_, fun e => ?_⟩
  · have hk := List.all_eq_true.1 ok _ hp
    simp only [Bool.and_eq_true, bne_iff_ne, ne_eq, decide_eq_true_eq] at hk
    obtain ⟨⟨⟨⟨⟨k1, k2⟩, k3⟩, k4⟩, k5⟩, k6⟩ := hk
    rw [getD_set_ne k2] at hL
    exact (Act.eval_put_ne _ md p.2 _ (fun e => k4 e.symm)).trans (h.f p hp hL)
  · refine ⟨w.heap.size, Act.eval_put_same _ _ _ (by rw [h.sz]; simpa using okz), h.below.size, Z, heap_alloc_new _ _, hZ, fun x => ?_⟩
    rw [getD_set_ne (fun y => okm y.symm), hsf] at x
    cases x
  · rw [getD_set_ne (fun y => okm y.symm), hsf] at e
    cases e
theorem Rg.stored (h : Rg W0 a0 own slots val mi md si t n V L a w) (ok : slotsOk own slots mi md si a0.tmps.size = true) (hm : L.getD mi false = true) {g : Nat} (hg : a.eval (.tmp md) = .pointer (some ⟨g, 0, none⟩)) (hV : V.size = n) :
    Rg W0 a0 own slots val mi md si t n V (L.setIfInBounds si true) a (w.setRow g V) := by
  unfold slotsOk at ok
  simp only [Bool.and_eq_true] at ok
  obtain ⟨⟨⟨ok, okd⟩, okm⟩, okz⟩ := ok
  have okm : mi ≠ si := by simpa using okm
  obtain ⟨g', h1, h2, Z, h3, h4, h5⟩ := h.m hm
  rw [hg] at h1
  injection h1 with h1
  injection h1 with h1
  injection h1 with h1
  subst h1
  refine ⟨h.sz, h.df, h.rest, below_setRow_ h.below h2, fun p hp hL => ?_, fun e => ⟨g, hg, h2, _, setRow_heap w g Z _ _ (0, 0) h3, hV, fun _ => rfl⟩, fun _ => by rw [getD_set_ne okm]; exact hm⟩
  have hk := List.all_eq_true.1 ok _ hp
  simp only [Bool.and_eq_true, bne_iff_ne, ne_eq, decide_eq_true_eq] at hk
  obtain ⟨⟨⟨⟨⟨k1, k2⟩, k3⟩, k4⟩, k5⟩, k6⟩ := hk
  rw [getD_set_ne k3] at hL
  exact h.f p hp hL
end
theorem put_form {a : Act} : ∀ (ds : List Nat) (a0 : Act), a.tmps.size = a0.tmps.size → a.defers = a0.defers → (∀ j, j ∉ ds → a.tmps[j]? = a0.tmps[j]?) → a = ds.foldl (fun x d => x.put (some d) (a.eval (.tmp d))) a0
  | [], a0, hs, hd, h => by
    cases a with
    | mk T D =>
      cases a0 with
      | mk T0 D0 =>
        simp only at hs hd h
        subst hd
        refine congrArg (fun t => Act.mk t D) (Array.ext_getElem? fun j => h j (by simp))
  | d :: ds, a0, hs, hd, h => by
    refine put_form ds (a0.put (some d) (a.eval (.tmp d))) (hs.trans (Act.size_put _ _ _).symm) (hd.trans (Act.defers_put' _ _ _).symm) fun j hj => ?_
    show a.tmps[j]? = (a0.tmps.setIfInBounds d (a.tmps.getD d undef))[j]?
    by_cases e : j = d
    · subst e
      by_cases hl : j < a.tmps.size
      · rw [Array.getElem?_setIfInBounds_self, if_pos (by omega)]
        simp [Array.getD, hl]
      · rw [Array.getElem?_eq_none (by omega), Array.getElem?_eq_none (by simp; omega)]
    · rw [Array.getElem?_setIfInBounds_ne (fun x => e x.symm)]
      exact h j (by simp [e, hj])
end Go.Proofs.Ytilkilffkjhhbaa.Mem
namespace Go.Proofs.Ytilkilffkjhhbaa.Mem
set_option maxRecDepth 20000
set_option linter.unusedVariables false
open Go.RowKit

/-- what holds while a statement is carried out whose values no order changes -/
structure Rf (W0 : World) (a0 : Act) (slots : List (Nat × Nat)) (val : Nat → Value) (L : Array Bool) (a : Act) (w : World) : Prop where
  sz : a.tmps.size = a0.tmps.size
  df : a.defers = a0.defers
  rest : ∀ j, (slots.map (·.2)).contains j = false → a.tmps[j]? = a0.tmps[j]?
  below : Below W0.heap.size W0 w
  f : ∀ p ∈ slots, L.getD p.1 false = true → a.eval (.tmp p.2) = val p.1
section
variable {W0 : World} {a0 : Act} {slots : List (Nat × Nat)} {val : Nat → Value} {L : Array Bool} {a : Act} {w : World}
theorem Rf.get (h : Rf W0 a0 slots val L a w) (i d : Nat) (hm : (i, d) ∈ slots) (hL : L.getD i false = true) : a.eval (.tmp d) = val i := h.f _ hm hL
theorem Rf.old (h : Rf W0 a0 slots val L a w) {j : Nat} (hj : (slots.map (·.2)).contains j = false) : a.eval (.tmp j) = a0.eval (.tmp j) := by
  simp only [Act.eval, Array.getD_eq_getD_getElem?, h.rest j hj]
end
theorem Act.eval_const_ (a : Act) (v : Value) : a.eval (.const v) = v := rfl
def slotsFix (slots : List (Nat × Nat)) (size : Nat) : Bool := slots.all fun p => decide (p.2 < size) && slots.all fun q => (p.1 == q.1) == (p.2 == q.2)
/-- an operation yields its value and leaves what was there -/
def FixOp (P : Program) (ops : Array Oper) (Q : Exit → Act → World → Prop) (val : Nat → Value) (slots : List (Nat × Nat)) (i : Nat) (a : Act) (w : World) : Prop :=
  ∃ d, (i, d) ∈ slots ∧ wpOp P ops Q i (fun a' w' => a' = a.put (some d) (val i) ∧ Below w.heap.size w w') a w
theorem foldl_vals (a : Act) (val : Nat → Value) : ∀ (slots : List (Nat × Nat)) (x : Act), (∀ p ∈ slots, a.eval (.tmp p.2) = val p.1) →
    (slots.map (·.2)).foldl (fun x d => x.put (some d) (a.eval (.tmp d))) x = slots.foldl (fun x p => x.put (some p.2) (val p.1)) x
  | [], _, _ => rfl
  | p :: r, x, h => by
    simp only [List.map_cons, List.foldl_cons]
    rw [h p (by simp)]
    exact foldl_vals a val r _ (fun q hq => h q (by simp [hq]))
theorem region_fixed {P : Program} {ops : Array Oper} {Q : Exit → Act → World → Prop} (hdep : depOk ops = true) (W0 : World) (a0 : Act) (slots : List (Nat × Nat)) (val : Nat → Value) (ok : slotsFix slots a0.tmps.size = true)
    (hall : slots.all (fun p => decide (p.1 < ops.size)) = true) (n : Nat) (hn : ops.size = n)
    (step : ∀ i L a w, Rf W0 a0 slots val L a w → i < n → (∀ on, ((ops[i]?).map fun o => o.after.any fun e => Region.binds .any e && e.on == on) = some true → L.getD on false = true) → FixOp P ops Q val slots i a w)
    (hQ : ∀ w, Below W0.heap.size W0 w → Q .normal (slots.foldl (fun x p => x.put (some p.2) (val p.1)) a0) w) : wpAny P .any ops Q n (Array.replicate n false) a0 W0.drew := by
  subst hn
  refine wpAny_gen (Rf W0 a0 slots val) hdep ?_ ?_ ops.size _ a0 W0.drew (by simp) (by simp) ⟨rfl, rfl, fun _ _ => rfl, (Below.refl _ _).drew, fun p _ hL => ?_⟩
  · intro i L a w h hL hi hf hneed
    obtain ⟨d, hm, hw⟩ := step i L a w h hi hneed
    refine wpOp_mono ?_ hw
    rintro a' w' ⟨rfl, hb⟩
    have hk := List.all_eq_true.1 ok _ hm
    simp only [Bool.and_eq_true, decide_eq_true_eq] at hk
    obtain ⟨k5, k6⟩ := hk
    refine ⟨(Act.size_put _ _ _).trans h.sz, (Act.defers_put' _ _ _).trans h.df, fun j hj => ?_, h.below.trans (hb.mono h.below.size), fun p hp hLp => ?_⟩
    · rw [← h.rest j hj]
      show (a.tmps.setIfInBounds d _)[j]? = _
      rw [Array.getElem?_setIfInBounds_ne]
      intro e
      subst e
      have : (slots.map (·.2)).contains d = true := by rw [List.contains_iff_mem]; exact List.mem_map.2 ⟨_, hm, rfl⟩
      rw [this] at hj
      cases hj
    · have hq := List.all_eq_true.1 k6 p hp
      by_cases hi : p.1 = i
      · have hd2 : p.2 = d := by
          have : (i == p.1) = true := by simp [hi]
          rw [this] at hq
          have : (d == p.2) = true := by simpa using hq
          exact (beq_iff_eq.1 this).symm
        rw [hi, hd2]
        exact Act.eval_put_same _ _ _ (by rw [h.sz]; exact k5)
      · have hd2 : d ≠ p.2 := by
          intro e
          have h1 : (i == p.1) = false := by simpa using fun e => hi e.symm
          have h2 : (d == p.2) = true := by simp [e]
          simp only [h1, h2] at hq
          cases hq
        rw [getD_set_ne hi] at hLp
        exact (Act.eval_put_ne _ d p.2 _ hd2).trans (h.f p hp hLp)
  · intro L a w hL hL2 h
    have e := put_form (slots.map (·.2)) a0 h.sz h.df (fun j hj => h.rest j (by
      cases hc : (slots.map (·.2)).contains j with
      | false => rfl
      | true => exact absurd (List.contains_iff_mem.1 hc) hj))
    have hall' : ∀ p ∈ slots, a.eval (.tmp p.2) = val p.1 := fun p hp => h.f p hp (hL2 _ (by simpa using List.all_eq_true.1 hall p hp))
    rw [e, foldl_vals a val slots a0 hall']
    exact hQ w h.below
  · simp [Array.getD] at hL
section
variable {P : Program} {ops : Array Oper} {Q : Exit → Act → World → Prop} {val : Nat → Value} {slots : List (Nat × Nat)} {i : Nat} {a : Act} {w : World} {o : Oper}
theorem wanted_none (hg : o.guard = none) : Region.wanted o (yielded ops a.tmps) = true := by simp [Region.wanted, hg]
theorem yielded_of {g dg : Nat} {og : Oper} {b : Bool} (hgo : ops[g]? = some og) (hgd : og.dst = some dg) (hv : a.eval (.tmp dg) = .bool b) : yielded ops a.tmps g = some b := by
  have h1 : a.tmps[dg]? = some (.bool b) := by
    simp only [Act.eval, Array.getD_eq_getD_getElem?] at hv
    cases h : a.tmps[dg]? with
    | none => rw [h] at hv; simp [undef] at hv
    | some v => rw [h] at hv; simpa using hv
  simp [yielded, hgo, hgd, h1]
theorem wanted_some {g dg : Nat} {og : Oper} {b : Bool} (hg : o.guard = some (g, b)) (hgo : ops[g]? = some og) (hgd : og.dst = some dg) (hv : a.eval (.tmp dg) = .bool b) : Region.wanted o (yielded ops a.tmps) = true := by
  simp [Region.wanted, hg, yielded_of hgo hgd hv]
theorem fix_value {d : Nat} (hi : ops[i]? = some o) (hw : Region.wanted o (yielded ops a.tmps) = true) (hd : o.dst = some d) (hm : (i, d) ∈ slots) (hr : (execOp a.eval o).run P w = .ok (.value (val i)) w) : FixOp P ops Q val slots i a w := by
  refine ⟨d, hm, ?_⟩
  unfold wpOp
  rw [hi]
  simp only [hw, if_true]
  left
  unfold Oper.wp
  rw [hr]
  show _ = _ ∧ _
  rw [hd]
  exact ⟨rfl, Below.refl _ _⟩
theorem fix_skip {d g dg : Nat} {og : Oper} {b : Bool} (hi : ops[i]? = some o) (hg : o.guard = some (g, !b)) (hgo : ops[g]? = some og) (hgd : og.dst = some dg) (hv : a.eval (.tmp dg) = .bool b) (hd : o.dst = some d) (hm : (i, d) ∈ slots) (hu : val i = undef) : FixOp P ops Q val slots i a w := by
  refine ⟨d, hm, ?_⟩
  unfold wpOp
  rw [hi]
  have hw : Region.wanted o (yielded ops a.tmps) = false := by simp [Region.wanted, hg, yielded_of hgo hgd hv]
  simp only [hw, Bool.false_eq_true, if_false]
  rw [hd, hu]
  exact ⟨rfl, Below.refl _ _⟩
theorem fix_call {d : Nat} (f : FuncId) (fn : Func) (xs : Array Operand) (ts : Array TypeId) (vs : Array Value) (hi : ops[i]? = some o) (hw : Region.wanted o (yielded ops a.tmps) = true) (hd : o.dst = some d) (hm : (i, d) ∈ slots)
    (ho : o.op = .call { callee := .value (.func f), args := xs, argTypes := ts }) (hv : xs.map a.eval = vs)
    (hf : P.funcs[f]? = some fn) (hn : (fn.name == "runtime.NumGoroutine") = false) (hb : fn.body.isNone = false)
    (h : Calls P f vs w fun e w' => e = .returned (val i) ∧ Below w.heap.size w w') : FixOp P ops Q val slots i a w := by
  refine ⟨d, hm, ?_⟩
  unfold wpOp
  rw [hi]
  simp only [hw, if_true]
  left
  have hb' : fn.body ≠ none := by intro h; rw [h] at hb; cases hb
  have hn' : fn.name ≠ "runtime.NumGoroutine" := by simpa using hn
  have hr : ∀ wx : World, (execOp a.eval o).run P wx = .ok (.enter f vs) wx := fun wx => by
    rw [← hv]
    unfold execOp
    simp [ho, resolve, Act.eval, invoke, Deferred.ofValue, callFunc, hf, hb', hn']
  refine wp_call_ f xs ts vs ho hv hr (h.mono ?_)
  rintro e w' ⟨rfl, hbw⟩
  refine ⟨_, rfl, ?_⟩
  rw [hd]
  exact ⟨rfl, hbw⟩
theorem x_move {x : Operand} {v : Value} (ho : o.op = .move x) (hx : a.eval x = v) : (execOp a.eval o).run P w = .ok (.value v) w := by
  unfold execOp; simp only [ho, hx]; rfl
theorem x_assign {x : Operand} {v : Value} (ho : o.op = .assign x) (hx : a.eval x = v) : (execOp a.eval o).run P w = .ok (.value v) w := by
  unfold execOp; simp only [ho, hx]; rfl
theorem x_pick_t {c x y : Operand} {v : Value} (ho : o.op = .pick c x y) (hc : a.eval c = .bool true) (hx : a.eval x = v) : (execOp a.eval o).run P w = .ok (.value v) w := by
  unfold execOp; simp only [ho, hc, hx]; rfl
theorem x_pick_f {c x y : Operand} {v : Value} (ho : o.op = .pick c x y) (hc : a.eval c = .bool false) (hy : a.eval y = v) : (execOp a.eval o).run P w = .ok (.value v) w := by
  unfold execOp; simp only [ho, hc, hy]; rfl
theorem x_len {x : Operand} {t e : TypeId} {A : Option Addr} {n c : Nat} (ho : o.op = .call { callee := .builtin .len, args := #[x], argTypes := #[t] }) (ht : P.underlying t = some (.slice e)) (hx : a.eval x = .slice A n c) : (execOp a.eval o).run P w = .ok (.value (.int .i64 (n : Int))) w := by
  unfold execOp
  simp only [ho, resolve, List.map_toArray, List.map_cons, List.map_nil, hx]
  simp [invoke, builtin, Builtin.len_, run_underlying ht, go_sem]
theorem x_slice {x : Operand} {t : TypeId} {lo hi : Option Operand} {vx v : Value} {lo' hi' : Option Value} (ho : o.op = .slice t x lo hi none) (ht : P.underlying t = some (.slice (P.elem t))) (hx : a.eval x = vx) (hl : lo.map a.eval = lo') (hh : hi.map a.eval = hi')
    (hr : (Instr.slice t vx lo' hi' none).run P w = .ok v w) : (execOp a.eval o).run P w = .ok (.value v) w := by
  unfold execOp
  simp only [ho, hx, hl, hh, Option.map_none]
  rw [Sem.run_bind, run_sliceAt_slice (P := P) _ _ _ _ _ _ ht, hr]
  rfl
theorem x_eql_agg {x y : Operand} {t t2 : TypeId} {xs ys : Array Value} {b : Bool} (ho : o.op = .binOp .eql t x y t2) (hx : a.eval x = .agg xs) (hy : a.eval y = .agg ys) (hm : P.eqGuardType P.depth t = false)
    (hr : (binOp .eql t (.agg xs) (.agg ys)).run P w = .ok (.bool b) w) : (execOp a.eval o).run P w = .ok (.value (.bool b)) w := by
  unfold execOp
  simp only [ho, hx, hy]
  rw [Sem.run_bind, Sem.run_bind, run_eqGuard_agg _ _ _ _ _ _ _ hm]
  simp only [Result.andThen_ok, hr]
  rfl
theorem x_load_row {x : Operand} {ty : TypeId} {g n : Nat} {cs : List Value} {t : TypeId} {d : TypeDesc} (ho : o.op = .load ty x) (hx : a.eval x = .pointer (some ⟨g, 0, none⟩)) (hg : w.heap[g]? = some (.cells cs.toArray t (0, 0)))
    (hu : P.underlying ty = some d) (hd : d.isRow = true) (hi : (P.info? ty).map (·.size) = some n) (hn : cs.length = n) : (execOp a.eval o).run P w = .ok (.value (.agg cs.toArray)) w := by
  have hc : w.rangeAt g 0 cs := fun j v hv => by
    rw [Nat.zero_add, cell_of_row w g j _ _ (0, 0) hg, List.getElem?_toArray]; exact hv
  unfold execOp
  simp only [ho, hx]
  rw [Sem.run_bind, run_loadAt_mid (P := P) w g 0 ty cs d hc hu hd (by rw [hi, hn])]
  rfl
theorem x_conv {x : Operand} {src dst : TypeId} {vx v : Value} (ho : o.op = .convert src dst x) (hx : a.eval x = vx) (hr : (convert src dst vx).run P w = .ok v w) : (execOp a.eval o).run P w = .ok (.value v) w := by
  unfold execOp
  simp only [ho, hx]
  rw [Sem.run_bind, hr]
  rfl
theorem x_eql_str {x y : Operand} {t t2 : TypeId} {s r : ByteArray} (ho : o.op = .binOp .eql t x y t2) (hx : a.eval x = .string s) (hy : a.eval y = .string r) : (execOp a.eval o).run P w = .ok (.value (.bool (s.toList == r.toList))) w := by
  unfold execOp
  simp only [ho, hx, hy]
  simp [eqGuard, go_sem]
theorem x_eql_int {x y : Operand} {t t2 : TypeId} {k : IntKind} {n m : Int} (ho : o.op = .binOp .eql t x y t2) (hx : a.eval x = .int k n) (hy : a.eval y = .int k m) : (execOp a.eval o).run P w = .ok (.value (.bool (n == m))) w := by
  unfold execOp
  simp only [ho, hx, hy]
  simp [eqGuard, go_sem]
theorem x_eql_true_str {x y : Operand} {t t2 : TypeId} {s : ByteArray} (ho : o.op = .binOp .eql t x y t2) (hx : a.eval x = .string s) (hy : a.eval y = .string s) : (execOp a.eval o).run P w = .ok (.value (.bool true)) w := by
  rw [x_eql_str ho hx hy]; simp
theorem x_eql_true_int {x y : Operand} {t t2 : TypeId} {k : IntKind} {n : Int} (ho : o.op = .binOp .eql t x y t2) (hx : a.eval x = .int k n) (hy : a.eval y = .int k n) : (execOp a.eval o).run P w = .ok (.value (.bool true)) w := by
  rw [x_eql_int ho hx hy]; simp
theorem x_eql_bool {x y : Operand} {t t2 : TypeId} {n m : Bool} (ht : P.underlying t = some .bool) (ho : o.op = .binOp .eql t x y t2) (hx : a.eval x = .bool n) (hy : a.eval y = .bool m) : (execOp a.eval o).run P w = .ok (.value (.bool (n == m))) w := by
  unfold execOp
  simp only [ho, hx, hy]
  simp [eqGuard, go_sem, run_eql_bool, ht]
theorem x_not {x : Operand} {t : TypeId} {b : Bool} (ho : o.op = .unOp .not t x) (hx : a.eval x = .bool b) : (execOp a.eval o).run P w = .ok (.value (.bool (!b))) w := by
  unfold execOp
  simp only [ho, hx]
  simp [go_sem]
end
end Go.Proofs.Ytilkilffkjhhbaa.Mem
namespace Go.Proofs.Ytilkilffkjhhbaa.Mem
set_option maxRecDepth 20000
set_option linter.unusedVariables false
open Go.RowKit

def chainOk (slots : List (Nat × Nat)) (ch : List (Nat × Option Nat)) (size : Nat) : Bool :=
  ch.all fun q => (match q.2 with | none => true | some d => decide (d < size) && !((slots.map (·.2)).contains d)) && !((slots.map (·.1)).contains q.1)
theorem region_chain {P : Program} {ops : Array Oper} {Q : Exit → Act → World → Prop} (hdep : depOk ops = true) (W0 : World) (a0 : Act) (slots : List (Nat × Nat)) (val : Nat → Value) (ch : List (Nat × Option Nat)) (C : (Nat → Bool) → (Nat → Value) → World → Prop)
    (ok : slotsFix slots a0.tmps.size = true) (okc : chainOk slots ch a0.tmps.size = true) (n : Nat) (hn : ops.size = n) (hall : slots.all (fun p => decide (p.1 < n)) = true) (hallc : ch.all (fun p => decide (p.1 < n)) = true)
    (hC : ∀ L L' vs w, (∀ p ∈ ch, L p.1 = L' p.1) → C L vs w → C L' vs w)
    (hbel : ∀ L vs w w', C L vs w → Below w.heap.size w w' → C L vs w')
    (hstart : C (fun _ => false) (fun d => a0.eval (.tmp d)) W0.drew)
    (step : ∀ a1 i L a w, (∀ j, (ch.map (·.2)).contains (some j) = false → a1.eval (.tmp j) = a0.eval (.tmp j)) → Rf W0 a1 slots val L a w → C (fun i => L.getD i false) (fun d => a1.eval (.tmp d)) w → i < n → L.getD i false = false →
      (∀ on, ((ops[i]?).map fun o => o.after.any fun e => Region.binds .any e && e.on == on) = some true → L.getD on false = true) →
      FixOp P ops Q val slots i a w ∨ ∃ d, (i, d) ∈ ch ∧ wpOp P ops Q i (fun a' w' => ∃ v, a' = a.put d v ∧ Below W0.heap.size W0 w' ∧ C (fun j => if j = i then true else L.getD j false) (fun s => if some s = d then v else a1.eval (.tmp s)) w') a w)
    (hQ : ∀ (vs : Nat → Value) w, Below W0.heap.size W0 w → C (fun _ => true) vs w → Q .normal (slots.foldl (fun x p => x.put (some p.2) (val p.1)) ((ch.filterMap (·.2)).foldl (fun x d => x.put (some d) (vs d)) a0)) w) :
    wpAny P .any ops Q n (Array.replicate n false) a0 W0.drew := by
  subst hn
  refine wpAny_gen (fun L a w => ∃ a1 : Act, a1.tmps.size = a0.tmps.size ∧ a1.defers = a0.defers ∧ (∀ j, (ch.map (·.2)).contains (some j) = false → a1.tmps[j]? = a0.tmps[j]?) ∧ Rf W0 a1 slots val L a w ∧ C (fun i => L.getD i false) (fun d => a1.eval (.tmp d)) w) hdep ?_ ?_ ops.size _ a0 W0.drew (by simp) (by simp) ⟨a0, rfl, rfl, fun _ _ => rfl, ⟨rfl, rfl, fun _ _ => rfl, (Below.refl _ _).drew, fun p _ hL => ?_⟩, ?_⟩
  · rintro i L a w ⟨a1, hs1, hd1, hr1, h, hc⟩ hL hi hf hneed
    have hev : ∀ j, (ch.map (·.2)).contains (some j) = false → a1.eval (.tmp j) = a0.eval (.tmp j) := fun j hj => by
      simp only [Act.eval, Array.getD_eq_getD_getElem?, hr1 j hj]
    rcases step a1 i L a w hev h hc hi hf hneed with ⟨d, hm, hw⟩ | ⟨d, hm, hw⟩
    · refine wpOp_mono ?_ hw
      rintro a' w' ⟨rfl, hb⟩
      have hk := List.all_eq_true.1 ok _ hm
      simp only [Bool.and_eq_true, decide_eq_true_eq] at hk
      obtain ⟨k5, k6⟩ := hk
      refine ⟨a1, hs1, hd1, hr1, ⟨(Act.size_put _ _ _).trans h.sz, (Act.defers_put' _ _ _).trans h.df, fun j hj => ?_, h.below.trans (hb.mono h.below.size), fun p hp hLp => ?_⟩, ?_⟩
      · rw [← h.rest j hj]
        show (a.tmps.setIfInBounds d _)[j]? = _
        rw [Array.getElem?_setIfInBounds_ne]
        intro e
        subst e
        have : (slots.map (·.2)).contains d = true := by rw [List.contains_iff_mem]; exact List.mem_map.2 ⟨_, hm, rfl⟩
        rw [this] at hj
        cases hj
      · have hq := List.all_eq_true.1 k6 p hp
        by_cases hi : p.1 = i
        · have hd2 : p.2 = d := by
            have : (i == p.1) = true := by simp [hi]
            rw [this] at hq
            have : (d == p.2) = true := by simpa using hq
            exact (beq_iff_eq.1 this).symm
          rw [hi, hd2]
          exact Act.eval_put_same _ _ _ (by rw [h.sz, hs1]; exact k5)
        · have hd2 : d ≠ p.2 := by
            intro e
            have h1 : (i == p.1) = false := by simpa using fun e => hi e.symm
            have h2 : (d == p.2) = true := by simp [e]
            simp only [h1, h2] at hq
            cases hq
          rw [getD_set_ne hi] at hLp
          exact (Act.eval_put_ne _ d p.2 _ hd2).trans (h.f p hp hLp)
      · refine hbel _ _ _ _ (hC _ _ _ _ (fun q hq => ?_) hc) hb
        have hqk := List.all_eq_true.1 okc q hq
        have hne : q.1 ≠ i := by
          rintro rfl
          have : (slots.map (·.1)).contains q.1 = true := by rw [List.contains_iff_mem]; exact List.mem_map.2 ⟨_, hm, rfl⟩
          rw [this] at hqk
          simp at hqk
        rw [getD_set_ne hne]
    · refine wpOp_mono ?_ hw
      rintro a' w' ⟨v, rfl, hb, hc'⟩
      have hqk := List.all_eq_true.1 okc _ hm
      have hni : ∀ p ∈ slots, p.1 ≠ i := by
        rintro p hp rfl
        have : (slots.map (·.1)).contains p.1 = true := by rw [List.contains_iff_mem]; exact List.mem_map.2 ⟨_, hp, rfl⟩
        rw [this] at hqk
        simp at hqk
      have hset : ∀ j, (L.setIfInBounds i true).getD j false = if j = i then true else L.getD j false := fun j => getD_set (by rw [hL]; exact hi) j
      cases d with
      | none =>
        refine ⟨a1, hs1, hd1, hr1, ⟨h.sz, h.df, h.rest, hb, fun p hp hLp => ?_⟩, ?_⟩
        · rw [getD_set_ne (hni p hp)] at hLp
          exact h.f p hp hLp
        · refine hC (fun j => if j = i then true else L.getD j false) _ _ _ (fun q _ => (hset q.1).symm) ?_
          simpa using hc'
      | some d =>
        simp only [Bool.and_eq_true, decide_eq_true_eq, Bool.not_eq_true'] at hqk
        obtain ⟨⟨hd0, hd2⟩, hd3⟩ := hqk
        refine ⟨a1.put (some d) v, (Act.size_put _ _ _).trans hs1, (Act.defers_put' _ _ _).trans hd1, fun j hj => ?_, ⟨(Act.size_put _ _ _).trans (h.sz.trans (Act.size_put _ _ _).symm), (Act.defers_put' _ _ _).trans (h.df.trans (Act.defers_put' _ _ _).symm), fun j hj => ?_, hb, fun p hp hLp => ?_⟩, ?_⟩
        · rw [← hr1 j hj]
          show (a1.tmps.setIfInBounds d _)[j]? = _
          rw [Array.getElem?_setIfInBounds_ne]
          intro e
          subst e
          have : (ch.map (·.2)).contains (some d) = true := by rw [List.contains_iff_mem]; exact List.mem_map.2 ⟨_, hm, rfl⟩
          rw [this] at hj
          cases hj
        · show (a.tmps.setIfInBounds d _)[j]? = (a1.tmps.setIfInBounds d _)[j]?
          rw [Array.getElem?_setIfInBounds, Array.getElem?_setIfInBounds, h.sz, h.rest j hj]
        · rw [getD_set_ne (hni p hp)] at hLp
          have hd4 : d ≠ p.2 := by
            rintro rfl
            have : (slots.map (·.2)).contains p.2 = true := by rw [List.contains_iff_mem]; exact List.mem_map.2 ⟨_, hp, rfl⟩
            rw [this] at hd2
            cases hd2
          exact (Act.eval_put_ne _ d p.2 _ hd4).trans (h.f p hp hLp)
        · refine hC (fun j => if j = i then true else L.getD j false) _ _ _ (fun q _ => (hset q.1).symm) ?_
          have e : (fun s => if some s = some d then v else a1.eval (.tmp s)) = fun s => (a1.put (some d) v).eval (.tmp s) := by
            funext s
            by_cases hs : s = d
            · subst hs
              rw [if_pos rfl, Act.eval_put_same _ _ _ (by rw [hs1]; exact hd0)]
            · rw [if_neg (fun e => hs (Option.some.inj e)), Act.eval_put_ne _ d s _ (fun e => hs e.symm)]
          rw [e] at hc'
          exact hc'
  · rintro L a w hL hL2 ⟨a1, hs1, hd1, hr1, h, hc⟩
    have e := put_form (slots.map (·.2)) a1 h.sz h.df (fun j hj => h.rest j (by
      cases hc : (slots.map (·.2)).contains j with
      | false => rfl
      | true => exact absurd (List.contains_iff_mem.1 hc) hj))
    have hall' : ∀ p ∈ slots, a.eval (.tmp p.2) = val p.1 := fun p hp => h.f p hp (hL2 _ (by simpa using List.all_eq_true.1 hall p hp))
    have e1 := put_form (ch.filterMap (·.2)) a0 hs1 hd1 (fun j hj => hr1 j (by
      cases hc : (ch.map (·.2)).contains (some j) with
      | false => rfl
      | true =>
        refine absurd ?_ hj
        obtain ⟨p, hp, hp2⟩ := List.mem_map.1 (List.contains_iff_mem.1 hc)
        exact List.mem_filterMap.2 ⟨p, hp, hp2⟩))
    rw [e, foldl_vals a val slots a1 hall']
    rw [e1]
    refine hQ (fun d => a1.eval (.tmp d)) w h.below (hC _ _ _ _ (fun q hq => hL2 _ (by simpa using List.all_eq_true.1 hallc q hq)) hc)
  · simp [Array.getD] at hL
  · refine hC _ _ _ _ (fun q _ => ?_) hstart
    simp [Array.getD]
section
variable {P : Program} {ops : Array Oper} {Q : Exit → Act → World → Prop} {K : Act → World → Prop} {i : Nat} {a : Act} {w w' : World} {o : Oper} {v : Value}
theorem wpAny_by {md : Region.Mode} {ops' : Array Oper} {f : Nat} {L : Array Bool} (h : ops' = ops) (h2 : wpAny P md ops' Q f L a w) : wpAny P md ops Q f L a w := h ▸ h2
theorem ch_oper (hi : ops[i]? = some o) (hw : Region.wanted o (yielded ops a.tmps) = true) (h : o.wp P a w K Q) : wpOp P ops Q i K a w := by
  unfold wpOp
  rw [hi]
  simp only [hw, if_true]
  left
  exact h
theorem ch_value (hi : ops[i]? = some o) (hw : Region.wanted o (yielded ops a.tmps) = true) (hr : (execOp a.eval o).run P w = .ok (.value v) w') (hK : K (a.put o.dst v) w') : wpOp P ops Q i K a w := by
  refine ch_oper hi hw ?_
  unfold Oper.wp
  rw [hr]
  exact hK
theorem ch_call (f : FuncId) (fn : Func) (xs : Array Operand) (ts : Array TypeId) (vs : Array Value) (hi : ops[i]? = some o) (hw : Region.wanted o (yielded ops a.tmps) = true)
    (ho : o.op = .call { callee := .value (.func f), args := xs, argTypes := ts }) (hv : xs.map a.eval = vs)
    (hf : P.funcs[f]? = some fn) (hn : (fn.name == "runtime.NumGoroutine") = false) (hb : fn.body.isNone = false)
    (h : Calls P f vs w fun e w' => ∃ v, e = .returned v ∧ K (a.put o.dst v) w') : wpOp P ops Q i K a w := by
  refine ch_oper hi hw ?_
  have hb' : fn.body ≠ none := by intro h; rw [h] at hb; cases hb
  have hn' : fn.name ≠ "runtime.NumGoroutine" := by simpa using hn
  have hr : ∀ wx : World, (execOp a.eval o).run P wx = .ok (.enter f vs) wx := fun wx => by
    rw [← hv]
    unfold execOp
    simp [ho, resolve, Act.eval, invoke, Deferred.ofValue, callFunc, hf, hb', hn']
  exact wp_call_ f xs ts vs ho hv hr h
theorem x_make {n c : Operand} {t : TypeId} {vn vc : Value} (ho : o.op = .makeSlice t n c) (hn : a.eval n = vn) (hc : a.eval c = vc) (hr : (Instr.makeSlice t vn vc).run P w = .ok v w') : (execOp a.eval o).run P w = .ok (.value v) w' := by
  unfold execOp
  simp only [ho, hn, hc]
  rw [Sem.run_bind, hr]
  rfl
theorem x_add64 {x y : Operand} {t t2 : TypeId} {n m : Int} (ho : o.op = .binOp .add t x y t2) (hx : a.eval x = .int .i64 n) (hy : a.eval y = .int .i64 m) (hw : IntKind.i64.wrap (n + m) = n + m) : (execOp a.eval o).run P w = .ok (.value (.int .i64 (n + m))) w := by
  unfold execOp
  simp only [ho, hx, hy]
  simp [eqGuard, go_sem, hw]
end
end Go.Proofs.Ytilkilffkjhhbaa.Mem
namespace Go.Proofs.Ytilkilffkjhhbaa.Mem
set_option maxRecDepth 20000
set_option linter.unusedVariables false
open Go.RowKit

/-- what holds of the values that no order changes -/
structure Rv (a0 : Act) (slots : List (Nat × Nat)) (val : Nat → Value) (L : Array Bool) (a : Act) (_w : World) : Prop where
  sz : a.tmps.size = a0.tmps.size
  df : a.defers = a0.defers
  rest : ∀ j, (slots.map (·.2)).contains j = false → a.tmps[j]? = a0.tmps[j]?
  f : ∀ p ∈ slots, L.getD p.1 false = true → a.eval (.tmp p.2) = val p.1
section
variable {a0 : Act} {slots : List (Nat × Nat)} {val : Nat → Value} {L : Array Bool} {a : Act} {w : World}
theorem Rv.get (h : Rv a0 slots val L a w) (i d : Nat) (hm : (i, d) ∈ slots) (hL : L.getD i false = true) : a.eval (.tmp d) = val i := h.f _ hm hL
theorem Rv.old (h : Rv a0 slots val L a w) {j : Nat} (hj : (slots.map (·.2)).contains j = false) : a.eval (.tmp j) = a0.eval (.tmp j) := by
  simp only [Act.eval, Array.getD_eq_getD_getElem?, h.rest j hj]
end
theorem region_chain2 {P : Program} {ops : Array Oper} {Q : Exit → Act → World → Prop} (hdep : depOk ops = true) (W0 : World) (a0 : Act) (slots : List (Nat × Nat)) (val : Nat → Value) (ch : List (Nat × Option Nat)) (C : (Nat → Bool) → (Nat → Value) → World → Prop)
    (ok : slotsFix slots a0.tmps.size = true) (okc : chainOk slots ch a0.tmps.size = true) (n : Nat) (hn : ops.size = n) (hall : slots.all (fun p => decide (p.1 < n)) = true) (hallc : ch.all (fun p => decide (p.1 < n)) = true)
    (hC : ∀ L L' vs w, (∀ p ∈ ch, L p.1 = L' p.1) → C L vs w → C L' vs w)
    (hbel : ∀ L vs w w', C L vs w → Below w.heap.size w w' → C L vs w')
    (hstart : C (fun _ => false) (fun d => a0.eval (.tmp d)) W0.drew)
    (step : ∀ a1 i L a w, (∀ j, (ch.map (·.2)).contains (some j) = false → a1.eval (.tmp j) = a0.eval (.tmp j)) → Rv a1 slots val L a w → C (fun i => L.getD i false) (fun d => a1.eval (.tmp d)) w → i < n → L.getD i false = false →
      (∀ on, ((ops[i]?).map fun o => o.after.any fun e => Region.binds .any e && e.on == on) = some true → L.getD on false = true) →
      FixOp P ops Q val slots i a w ∨ ∃ d, (i, d) ∈ ch ∧ wpOp P ops Q i (fun a' w' => ∃ v, a' = a.put d v ∧ C (fun j => if j = i then true else L.getD j false) (fun s => if some s = d then v else a1.eval (.tmp s)) w') a w)
    (hQ : ∀ (vs : Nat → Value) w, C (fun _ => true) vs w → Q .normal (slots.foldl (fun x p => x.put (some p.2) (val p.1)) ((ch.filterMap (·.2)).foldl (fun x d => x.put (some d) (vs d)) a0)) w) :
    wpAny P .any ops Q n (Array.replicate n false) a0 W0.drew := by
  subst hn
  refine wpAny_gen (fun L a w => ∃ a1 : Act, a1.tmps.size = a0.tmps.size ∧ a1.defers = a0.defers ∧ (∀ j, (ch.map (·.2)).contains (some j) = false → a1.tmps[j]? = a0.tmps[j]?) ∧ Rv a1 slots val L a w ∧ C (fun i => L.getD i false) (fun d => a1.eval (.tmp d)) w) hdep ?_ ?_ ops.size _ a0 W0.drew (by simp) (by simp) ⟨a0, rfl, rfl, fun _ _ => rfl, ⟨rfl, rfl, fun _ _ => rfl, fun p _ hL => ?_⟩, ?_⟩
  · rintro i L a w ⟨a1, hs1, hd1, hr1, h, hc⟩ hL hi hf hneed
    have hev : ∀ j, (ch.map (·.2)).contains (some j) = false → a1.eval (.tmp j) = a0.eval (.tmp j) := fun j hj => by
      simp only [Act.eval, Array.getD_eq_getD_getElem?, hr1 j hj]
    rcases step a1 i L a w hev h hc hi hf hneed with ⟨d, hm, hw⟩ | ⟨d, hm, hw⟩
    · refine wpOp_mono ?_ hw
      rintro a' w' ⟨rfl, hb⟩
      have hk := List.all_eq_true.1 ok _ hm
      simp only [Bool.and_eq_true, decide_eq_true_eq] at hk
      obtain ⟨k5, k6⟩ := hk
      refine ⟨a1, hs1, hd1, hr1, ⟨(Act.size_put _ _ _).trans h.sz, (Act.defers_put' _ _ _).trans h.df, fun j hj => ?_, fun p hp hLp => ?_⟩, ?_⟩
      · rw [← h.rest j hj]
        show (a.tmps.setIfInBounds d _)[j]? = _
        rw [Array.getElem?_setIfInBounds_ne]
        intro e
        subst e
        have : (slots.map (·.2)).contains d = true := by rw [List.contains_iff_mem]; exact List.mem_map.2 ⟨_, hm, rfl⟩
        rw [this] at hj
        cases hj
      · have hq := List.all_eq_true.1 k6 p hp
        by_cases hi : p.1 = i
        · have hd2 : p.2 = d := by
            have : (i == p.1) = true := by simp [hi]
            rw [this] at hq
            have : (d == p.2) = true := by simpa using hq
            exact (beq_iff_eq.1 this).symm
          rw [hi, hd2]
          exact Act.eval_put_same _ _ _ (by rw [h.sz, hs1]; exact k5)
        · have hd2 : d ≠ p.2 := by
            intro e
            have h1 : (i == p.1) = false := by simpa using fun e => hi e.symm
            have h2 : (d == p.2) = true := by simp [e]
            simp only [h1, h2] at hq
            cases hq
          rw [getD_set_ne hi] at hLp
          exact (Act.eval_put_ne _ d p.2 _ hd2).trans (h.f p hp hLp)
      · refine hbel _ _ _ _ (hC _ _ _ _ (fun q hq => ?_) hc) hb
        have hqk := List.all_eq_true.1 okc q hq
        have hne : q.1 ≠ i := by
          rintro rfl
          have : (slots.map (·.1)).contains q.1 = true := by rw [List.contains_iff_mem]; exact List.mem_map.2 ⟨_, hm, rfl⟩
          rw [this] at hqk
          simp at hqk
        rw [getD_set_ne hne]
    · refine wpOp_mono ?_ hw
      rintro a' w' ⟨v, rfl, hc'⟩
      have hqk := List.all_eq_true.1 okc _ hm
      have hni : ∀ p ∈ slots, p.1 ≠ i := by
        rintro p hp rfl
        have : (slots.map (·.1)).contains p.1 = true := by rw [List.contains_iff_mem]; exact List.mem_map.2 ⟨_, hp, rfl⟩
        rw [this] at hqk
        simp at hqk
      have hset : ∀ j, (L.setIfInBounds i true).getD j false = if j = i then true else L.getD j false := fun j => getD_set (by rw [hL]; exact hi) j
      cases d with
      | none =>
        refine ⟨a1, hs1, hd1, hr1, ⟨h.sz, h.df, h.rest, fun p hp hLp => ?_⟩, ?_⟩
        · rw [getD_set_ne (hni p hp)] at hLp
          exact h.f p hp hLp
        · refine hC (fun j => if j = i then true else L.getD j false) _ _ _ (fun q _ => (hset q.1).symm) ?_
          simpa using hc'
      | some d =>
        simp only [Bool.and_eq_true, decide_eq_true_eq, Bool.not_eq_true'] at hqk
        obtain ⟨⟨hd0, hd2⟩, hd3⟩ := hqk
        refine ⟨a1.put (some d) v, (Act.size_put _ _ _).trans hs1, (Act.defers_put' _ _ _).trans hd1, fun j hj => ?_, ⟨(Act.size_put _ _ _).trans (h.sz.trans (Act.size_put _ _ _).symm), (Act.defers_put' _ _ _).trans (h.df.trans (Act.defers_put' _ _ _).symm), fun j hj => ?_, fun p hp hLp => ?_⟩, ?_⟩
        · rw [← hr1 j hj]
          show (a1.tmps.setIfInBounds d _)[j]? = _
          rw [Array.getElem?_setIfInBounds_ne]
          intro e
          subst e
          have : (ch.map (·.2)).contains (some d) = true := by rw [List.contains_iff_mem]; exact List.mem_map.2 ⟨_, hm, rfl⟩
          rw [this] at hj
          cases hj
        · show (a.tmps.setIfInBounds d _)[j]? = (a1.tmps.setIfInBounds d _)[j]?
          rw [Array.getElem?_setIfInBounds, Array.getElem?_setIfInBounds, h.sz, h.rest j hj]
        · rw [getD_set_ne (hni p hp)] at hLp
          have hd4 : d ≠ p.2 := by
            rintro rfl
            have : (slots.map (·.2)).contains p.2 = true := by rw [List.contains_iff_mem]; exact List.mem_map.2 ⟨_, hp, rfl⟩
            rw [this] at hd2
            cases hd2
          exact (Act.eval_put_ne _ d p.2 _ hd4).trans (h.f p hp hLp)
        · refine hC (fun j => if j = i then true else L.getD j false) _ _ _ (fun q _ => (hset q.1).symm) ?_
          have e : (fun s => if some s = some d then v else a1.eval (.tmp s)) = fun s => (a1.put (some d) v).eval (.tmp s) := by
            funext s
            by_cases hs : s = d
            · subst hs
              rw [if_pos rfl, Act.eval_put_same _ _ _ (by rw [hs1]; exact hd0)]
            · rw [if_neg (fun e => hs (Option.some.inj e)), Act.eval_put_ne _ d s _ (fun e => hs e.symm)]
          rw [e] at hc'
          exact hc'
  · rintro L a w hL hL2 ⟨a1, hs1, hd1, hr1, h, hc⟩
    have e := put_form (slots.map (·.2)) a1 h.sz h.df (fun j hj => h.rest j (by
      cases hc : (slots.map (·.2)).contains j with
      | false => rfl
      | true => exact absurd (List.contains_iff_mem.1 hc) hj))
    have hall' : ∀ p ∈ slots, a.eval (.tmp p.2) = val p.1 := fun p hp => h.f p hp (hL2 _ (by simpa using List.all_eq_true.1 hall p hp))
    have e1 := put_form (ch.filterMap (·.2)) a0 hs1 hd1 (fun j hj => hr1 j (by
      cases hc : (ch.map (·.2)).contains (some j) with
      | false => rfl
      | true =>
        refine absurd ?_ hj
        obtain ⟨p, hp, hp2⟩ := List.mem_map.1 (List.contains_iff_mem.1 hc)
        exact List.mem_filterMap.2 ⟨p, hp, hp2⟩))
    rw [e, foldl_vals a val slots a1 hall']
    rw [e1]
    refine hQ (fun d => a1.eval (.tmp d)) w (hC _ _ _ _ (fun q hq => hL2 _ (by simpa using List.all_eq_true.1 hallc q hq)) hc)
  · simp [Array.getD] at hL
  · refine hC _ _ _ _ (fun q _ => ?_) hstart
    simp [Array.getD]
end Go.Proofs.Ytilkilffkjhhbaa.Mem
namespace Go.Proofs.Ytilkilffkjhhbaa.Mem
set_option maxRecDepth 20000
set_option linter.unusedVariables false
open Go.RowKit

def ownMade (slots : List (Nat × Nat)) (md : Nat) (j : Nat) : Bool := j == md || (slots.map (·.2)).contains j
theorem region_made {P : Program} {ops : Array Oper} {Q : Exit → Act → World → Prop} (hdep : depOk ops = true) (W0 : World) (a0 : Act) (slots : List (Nat × Nat)) (val : Nat → Value) (mi ms si sv sd : Nat) (t ty : TypeId) (Z V : Array Value)
    (ok : slotsOk (ownMade slots ms) slots mi ms si a0.tmps.size = true) (hall : slots.all (fun p => decide (p.1 < ops.size)) = true) (n : Nat) (hn : ops.size = n) (hmn : mi < n) (hsn : si < n)
    (halloc : ∃ o, ops[mi]? = some o ∧ o.guard = none ∧ o.dst = some ms ∧ o.op = .alloc t) (hrun : ∀ w, (Instr.alloc t true (.tuple #[])).run P w = .ok (.pointer (some ⟨w.heap.size, 0, none⟩)) (w.alloc (.cells Z t)))
    (hstore : ∃ o, ops[si]? = some o ∧ o.guard = none ∧ o.dst = none ∧ o.op = .store ty (.tmp ms) (.tmp sd)) (hsm : (sv, sd) ∈ slots) (hval : val sv = .agg V) (hi : (P.info? ty).map (·.size) = some V.size) (hZV : Z.size = V.size) (hV1 : V.all (·.oneCell') = true)
    (hsneed : ((ops[si]?).map fun o => o.after.any fun e => Region.binds .any e && e.on == mi) = some true) (hsneed2 : ((ops[si]?).map fun o => o.after.any fun e => Region.binds .any e && e.on == sv) = some true)
    (step : ∀ i L a w, Rg W0 a0 (ownMade slots ms) slots val mi ms si t V.size V L a w → i < n → i ≠ mi → i ≠ si → (∀ on, ((ops[i]?).map fun o => o.after.any fun e => Region.binds .any e && e.on == on) = some true → L.getD on false = true) → FixOp P ops Q val slots i a w)
    (hQ : ∀ w g, Below W0.heap.size W0 w → W0.heap.size ≤ g → w.heap[g]? = some (.cells V t (0, 0)) → Q .normal (slots.foldl (fun x p => x.put (some p.2) (val p.1)) (a0.put (some ms) (.pointer (some ⟨g, 0, none⟩)))) w) :
    wpAny P .any ops Q n (Array.replicate n false) a0 W0.drew := by
  subst hn
  refine wpAny_gen (Rg W0 a0 (ownMade slots ms) slots val mi ms si t V.size V) hdep ?_ ?_ ops.size _ a0 W0.drew (by simp) (by simp) ⟨rfl, rfl, fun _ _ => rfl, (Below.refl _ _).drew, fun p _ hL => ?_, fun hL => ?_, fun hL => ?_⟩
  · intro i L a w h hL hi' hf hneed
    by_cases e1 : i = mi
    · subst e1
      obtain ⟨o, ho, hg, hd, hop⟩ := halloc
      refine wpOp_of ho hg (wp_alloc_ _ _ hop (hrun w) ?_)
      rw [hd]
      exact h.made ok hf _ hZV
    · by_cases e2 : i = si
      · subst e2
        obtain ⟨o, ho, hg, hd, hop⟩ := hstore
        have hm : L.getD mi false = true := hneed mi hsneed
        have h1 := (h.get sv sd hsm (hneed sv hsneed2)).trans hval
        obtain ⟨g, k1, k2, Z', k3, k4, k5⟩ := h.m hm
        refine wpOp_of ho hg (wp_store_row _ _ _ hop g _ k1 h1 _ _ k3 hi k4 hV1 ?_)
        rw [hd]
        exact h.stored ok hm k1 rfl
      · obtain ⟨d, hm, hw⟩ := step i L a w h hi' e1 e2 hneed
        refine wpOp_mono ?_ hw
        rintro a' w' ⟨rfl, hb⟩
        exact (h.world hb).put ok i d hm
  · intro L a w hL hL2 h
    obtain ⟨g, k1, k2, Z', k3, k4, k5⟩ := h.m (hL2 _ hmn)
    obtain rfl := k5 (hL2 _ hsn)
    have e := put_form (ms :: slots.map (·.2)) a0 h.sz h.df (fun j hj => h.rest j (by
      simp only [List.mem_cons, not_or] at hj
      unfold ownMade
      cases hc : (slots.map (·.2)).contains j with
      | false => simp [hj.1]
      | true => exact absurd (List.contains_iff_mem.1 hc) hj.2))
    have hall' : ∀ p ∈ slots, a.eval (.tmp p.2) = val p.1 := fun p hp => h.f p hp (hL2 _ (by simpa using List.all_eq_true.1 hall p hp))
    rw [e, List.foldl_cons, foldl_vals a val slots _ hall', k1]
    exact hQ w g h.below k2 k3
  · simp [Array.getD] at hL
  · simp [Array.getD] at hL
  · simp [Array.getD] at hL
section
variable {P : Program} {a : Act} {w : World} {o : Oper}
theorem x_extract {x : Operand} {k : Nat} {xs : Array Value} {v : Value} (ho : o.op = .extract x k) (hx : a.eval x = .tuple xs) (hk : xs[k]? = some v) : (execOp a.eval o).run P w = .ok (.value v) w := by
  unfold execOp
  simp only [ho, hx]
  simp [Instr.extract, hk, go_sem]
theorem x_add {x y : Operand} {t t2 : TypeId} {k : IntKind} {n m : Int} (ho : o.op = .binOp .add t x y t2) (hx : a.eval x = .int k n) (hy : a.eval y = .int k m) (hw : k.wrap (n + m) = n + m) : (execOp a.eval o).run P w = .ok (.value (.int k (n + m))) w := by
  unfold execOp
  simp only [ho, hx, hy]
  simp [eqGuard, go_sem, hw]
end
end Go.Proofs.Ytilkilffkjhhbaa.Mem
