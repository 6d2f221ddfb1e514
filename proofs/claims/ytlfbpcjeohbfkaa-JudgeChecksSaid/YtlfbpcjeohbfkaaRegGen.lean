/-
  A region that draws its order and makes one row of memory at most: its operations are met one by one, whatever was done before each.
-/
import Derived.Test.YtlfbpcjeohbfkaaRegion
import Derived.Great.Frames
import Derived.Deep.DeepCutAuto
namespace Go.Proofs.Ytlfbpcjeohbfkaa.Mem
open Go.RowKit

theorem ready_parts {md : Region.Mode} {ops : Array Oper} {L : Array Bool} {i : Nat} : i ∈ Region.ready md ops L ↔ i < ops.size ∧ L.getD i true = false ∧
    ((ops[i]?).map fun o => o.after.all fun e => !Region.binds md e || L.getD e.on false) = some true := by
  unfold Region.ready
  rw [List.mem_filter, List.mem_range]
  refine and_congr_right fun h1 => ?_
  rw [Array.getElem?_eq_getElem h1, Bool.and_eq_true, Bool.not_eq_true']
  simp
def depOk (ops : Array Oper) : Bool := (List.range ops.size).all fun i => ((ops[i]?).map fun o => o.after.all fun e => !Region.binds .any e || decide (e.on < i)).getD true
theorem getD_two {L : Array Bool} {i : Nat} (h : i < L.size) : L.getD i true = L.getD i false := by simp [Array.getD, h]
theorem count_set {l : List Bool} {i : Nat} (h : l[i]? = some false) : (l.set i true).count false + 1 = l.count false := by
  induction l generalizing i with
  | nil => simp at h
  | cons b l ih =>
    cases i with
    | zero => simp at h; subst h; simp
    | succ i =>
      have h' : l[i]? = some false := by simpa using h
      have := ih h'
      simp only [List.set_cons_succ, List.count_cons]
      omega
theorem wpAny_gen {P : Program} {ops : Array Oper} {Q : Exit → Act → World → Prop} (J : Array Bool → Act → World → Prop) (hdep : depOk ops = true)
    (step : ∀ i L a w, J L a w → L.size = ops.size → i < ops.size → L.getD i false = false →
      (∀ on, ((ops[i]?).map fun o => o.after.any fun e => Region.binds .any e && e.on == on) = some true → L.getD on false = true) →
      wpOp P ops Q i (J (L.setIfInBounds i true)) a w)
    (hQ : ∀ L a w, L.size = ops.size → (∀ i, i < ops.size → L.getD i false = true) → J L a w → Q .normal a w) (f : Nat) (L : Array Bool) (a : Act) (w : World)
    (hL : L.size = ops.size) (hf : f = L.toList.count false) (hJ : J L a w) : wpAny P .any ops Q f L a w := by
  refine wpAny_inv (fun f L a w => L.size = ops.size ∧ f = L.toList.count false ∧ J L a w) ?_ ?_ f L a w ⟨hL, hf, hJ⟩
  · rintro L a w ⟨hL, hf, hJ⟩
    have hall : ∀ i, i < ops.size → L.getD i false = true := by
      intro i hi
      have hm : L[i]'(by omega) ∈ L.toList := by simp
      cases hb : L[i]'(by omega) with
      | true => simp [Array.getD, hL, hi, hb]
      | false =>
        rw [hb] at hm
        have := List.count_pos_iff.2 hm
        omega
    refine ⟨?_, hQ L a w hL hall hJ⟩
    rw [List.eq_nil_iff_forall_not_mem]
    intro i hi
    obtain ⟨h1, h2, _⟩ := ready_parts.1 hi
    rw [getD_two (by omega), hall i h1] at h2
    cases h2
  · rintro f L a w ⟨hL, hf, hJ⟩
    constructor
    · have hex : ∃ i, i < ops.size ∧ L.getD i false = false := by
        have : false ∈ L.toList := List.count_pos_iff.1 (by omega)
        obtain ⟨i, hi, he⟩ := List.getElem_of_mem this
        have hi' : i < L.size := by simpa using hi
        refine ⟨i, by omega, ?_⟩
        simp only [Array.getElem_toList] at he
        simp [Array.getD, hi', he]
      obtain ⟨i, ⟨hi, hif⟩, hmin⟩ : ∃ i, (i < ops.size ∧ L.getD i false = false) ∧ ∀ j, j < i → ¬ (j < ops.size ∧ L.getD j false = false) := by
        obtain ⟨i, hi⟩ := hex
        induction i using Nat.strongRecOn with
        | _ i ih =>
          by_cases hx : ∃ j, j < i ∧ (j < ops.size ∧ L.getD j false = false)
          · obtain ⟨j, hj, hp⟩ := hx
            exact ih j hj hp
          · exact ⟨i, hi, fun j hj hp => hx ⟨j, hj, hp⟩⟩
      intro e
      have : i ∈ Region.ready .any ops L := by
        refine ready_parts.2 ⟨hi, (getD_two (by omega)).trans hif, ?_⟩
        rw [Array.getElem?_eq_getElem hi]
        simp only [Option.map_some, Option.some.injEq]
        rw [Array.all_eq_true_iff_forall_mem]
        intro x hx
        have hd : ((ops[i]?).map fun o => o.after.all fun e => !Region.binds .any e || decide (e.on < i)).getD true = true := List.all_eq_true.1 hdep i (List.mem_range.2 hi)
        rw [Array.getElem?_eq_getElem hi] at hd
        simp only [Option.map_some, Option.getD_some] at hd
        have hlt := Array.all_eq_true_iff_forall_mem.1 hd x hx
        rcases Bool.or_eq_true_iff.1 hlt with hb0 | hlt
        · rw [hb0]; rfl
        have hlt : x.on < i := by simpa using hlt
        have hne := hmin _ hlt
        have : L.getD x.on false = true := by
          cases hb : L.getD x.on false with
          | true => rfl
          | false => exact absurd ⟨by omega, hb⟩ hne
        rw [this]; simp
      rw [e] at this
      cases this
    · intro i hi
      obtain ⟨h1, h2, h3⟩ := ready_parts.1 hi
      have hlt : i < L.size := by omega
      rw [getD_two hlt] at h2
      have hset : (L.setIfInBounds i true).toList = L.toList.set i true := Array.toList_setIfInBounds ..
      have hget : L.toList[i]? = some false := by
        have : L.getD i false = L[i]'hlt := by simp [Array.getD, hlt]
        rw [this] at h2
        rw [Array.getElem?_toList, Array.getElem?_eq_getElem hlt, h2]
      refine wpOp_mono (fun a w h => ⟨by simpa using hL, ?_, h⟩) (step i L a w hJ hL h1 h2 ?_)
      · rw [hset]; have := count_set hget; omega
      · intro on hon
        rw [Array.getElem?_eq_getElem h1] at h3 hon
        simp only [Option.map_some, Option.some.injEq] at h3 hon
        obtain ⟨e, he, hb⟩ := Array.any_eq_true'.1 hon
        rw [Bool.and_eq_true] at hb
        have := Array.all_eq_true_iff_forall_mem.1 h3 e he
        rw [hb.1] at this
        have e2 : e.on = on := by simpa using hb.2
        rw [← e2]
        simpa using this
theorem getD_set {L : Array Bool} {i : Nat} (hi : i < L.size) (j : Nat) : (L.setIfInBounds i true).getD j false = if j = i then true else L.getD j false := by
  by_cases h : j = i
  · subst h; simp [Array.getD, hi]
  · rw [if_neg h]
    simp only [Array.getD_eq_getD_getElem?]
    rw [Array.getElem?_setIfInBounds_ne (fun e => h e.symm)]
theorem getD_set_ne {L : Array Bool} {i j : Nat} (h : j ≠ i) : (L.setIfInBounds i true).getD j false = L.getD j false := by
  simp only [Array.getD_eq_getD_getElem?]
  rw [Array.getElem?_setIfInBounds_ne (fun e => h e.symm)]
theorem lt_heap {w : World} {g : Nat} {o : Obj} (h : w.heap[g]? = some o) : g < w.heap.size := (Array.getElem?_eq_some_iff.1 h).1
theorem below_setRow_ {B : Nat} {a w : World} {g : Nat} {cs : Array Value} (h : Below B a w) (hg : B ≤ g) : Below B a (w.setRow g cs) :=
  ⟨h.os, h.tape, h.output, by simpa using h.size, fun k hk => by rw [setRow_other _ _ _ _ (by omega)]; exact h.block k hk⟩
/-- what holds while a statement is carried out: slots whose value no order changes, and one row made on the way -/
structure Rg (W0 : World) (a0 : Act) (own : Nat → Bool) (slots : List (Nat × Nat)) (val : Nat → Value) (mi md si : Nat) (t : TypeId) (n : Nat) (V : Array Value) (L : Array Bool) (a : Act) (w : World) : Prop where
  sz : a.tmps.size = a0.tmps.size
  df : a.defers = a0.defers
  rest : ∀ j, own j = false → a.tmps[j]? = a0.tmps[j]?
  below : Below W0.heap.size W0 w
  f : ∀ p ∈ slots, L.getD p.1 false = true → a.eval (.tmp p.2) = val p.1
  m : L.getD mi false = true → ∃ g, a.eval (.tmp md) = .pointer (some ⟨g, 0, none⟩) ∧ W0.heap.size ≤ g ∧ ∃ Z : Array Value, w.heap[g]? = some (.cells Z t (0, 0)) ∧ Z.size = n ∧ (L.getD si false = true → Z = V)
  o : L.getD si false = true → L.getD mi false = true
section
variable {W0 : World} {a0 : Act} {own : Nat → Bool} {slots : List (Nat × Nat)} {val : Nat → Value} {mi md si : Nat} {t : TypeId} {n : Nat} {V : Array Value} {L : Array Bool} {a : Act} {w : World}
theorem Rg.world (h : Rg W0 a0 own slots val mi md si t n V L a w) {w' : World} (hb : Below w.heap.size w w') : Rg W0 a0 own slots val mi md si t n V L a w' :=
  ⟨h.sz, h.df, h.rest, h.below.trans (hb.mono h.below.size), h.f, fun e => by
    obtain ⟨g, h1, h2, Z, h3, h4⟩ := h.m e
    exact ⟨g, h1, h2, Z, (hb.block _ (lt_heap h3)).trans h3, h4⟩, h.o⟩
theorem Rg.get (h : Rg W0 a0 own slots val mi md si t n V L a w) (i d : Nat) (hm : (i, d) ∈ slots) (hL : L.getD i false = true) : a.eval (.tmp d) = val i := h.f _ hm hL
theorem Rg.old (h : Rg W0 a0 own slots val mi md si t n V L a w) {j : Nat} (hj : own j = false) : a.eval (.tmp j) = a0.eval (.tmp j) := by
  simp only [Act.eval, Array.getD_eq_getD_getElem?, h.rest j hj]
theorem put_rest {a0 a : Act} {own : Nat → Bool} (h : ∀ j, own j = false → a.tmps[j]? = a0.tmps[j]?) {d : Nat} (hd : own d = true) (v : Value) : ∀ j, own j = false → (a.put (some d) v).tmps[j]? = a0.tmps[j]? := fun j hj => by
  rw [← h j hj]
  show (a.tmps.setIfInBounds d v)[j]? = _
  rw [Array.getElem?_setIfInBounds_ne]
  intro e
  rw [e, hj] at hd
  cases hd
/-- the choice of slots is sound: each written once, none of them the row's -/
def slotsOk (own : Nat → Bool) (slots : List (Nat × Nat)) (mi md si size : Nat) : Bool :=
  slots.all (fun p => own p.2 && p.1 != mi && p.1 != si && p.2 != md && decide (p.2 < size) && slots.all (fun q => (p.1 == q.1) == (p.2 == q.2))) && own md && mi != si && decide (md < size)
theorem Rg.put (h : Rg W0 a0 own slots val mi md si t n V L a w) (ok : slotsOk own slots mi md si a0.tmps.size = true) (i d : Nat) (hm : (i, d) ∈ slots) :
    Rg W0 a0 own slots val mi md si t n V (L.setIfInBounds i true) (a.put (some d) (val i)) w := by
  unfold slotsOk at ok
  simp only [Bool.and_eq_true] at ok
  obtain ⟨⟨⟨ok, okd⟩, okm⟩, okz⟩ := ok
  have hk := List.all_eq_true.1 ok _ hm
  simp only [Bool.and_eq_true, bne_iff_ne, ne_eq, decide_eq_true_eq] at hk
  obtain ⟨⟨⟨⟨⟨k1, k2⟩, k3⟩, k4⟩, k5⟩, k6⟩ := hk
  refine ⟨(Act.size_put _ _ _).trans h.sz, (Act.defers_put' _ _ _).trans h.df, put_rest h.rest k1 _, h.below, fun p hp hL => ?_, fun e => ?_, fun e => ?_⟩
  · have hq := List.all_eq_true.1 k6 p hp
    by_cases hi : p.1 = i
    · have hd2 : p.2 = d := by
        have : (i == p.1) = true := by simp [hi]
        rw [this] at hq
        have : (d == p.2) = true := by simpa using hq
        exact (beq_iff_eq.1 this).symm
      rw [hi, hd2]
      exact Act.eval_put_same _ _ _ (by rw [h.sz]; exact k5)
    · have hd2 : d ≠ p.2 := by
        intro e
        have h1 : (i == p.1) = false := by simpa using fun e => hi e.symm
        have h2 : (d == p.2) = true := by simp [e]
        simp only [h1, h2] at hq
        cases hq
      rw [getD_set_ne hi] at hL
      exact (Act.eval_put_ne _ d p.2 _ hd2).trans (h.f p hp hL)
  · rw [getD_set_ne (fun x => k2 x.symm)] at e
    obtain ⟨g, h1, h2, Z, h3, h4, h5⟩ := h.m e
    exact ⟨g, (Act.eval_put_ne _ d md _ k4).trans h1, h2, Z, h3, h4, fun x => h5 (by rwa [getD_set_ne (fun y => k3 y.symm)] at x)⟩
  · rw [getD_set_ne (fun x => k2 x.symm)]
    exact h.o (by rwa [getD_set_ne (fun y => k3 y.symm)] at e)
theorem Rg.made (h : Rg W0 a0 own slots val mi md si t n V L a w) (ok : slotsOk own slots mi md si a0.tmps.size = true) (hf : L.getD mi false = false) (Z : Array Value) (hZ : Z.size = n) :
    Rg W0 a0 own slots val mi md si t n V (L.setIfInBounds mi true) (a.put (some md) (.pointer (some ⟨w.heap.size, 0, none⟩))) (w.alloc (.cells Z t)) := by
  have h' := h.world (w' := w.alloc (.cells Z t)) ((Below.refl _ _).alloc (Nat.le_refl _) _)
  unfold slotsOk at ok
  simp only [Bool.and_eq_true] at ok
  obtain ⟨⟨⟨ok, okd⟩, okm⟩, okz⟩ := ok
  have okm : mi ≠ si := by simpa using okm
  have hsf : L.getD si false = false := by
    cases hx : L.getD si false with
    | false => rfl
    | true => have := h.o hx; rw [hf] at this; cases this
  refine ⟨(Act.size_put _ _ _).trans h.sz, (Act.defers_put' _ _ _).trans h.df, put_rest h.rest okd _, h'.below, fun p hp hL => ?_, fun e => ?_, fun e => ?_⟩
  · have hk := List.all_eq_true.1 ok _ hp
    simp only [Bool.and_eq_true, bne_iff_ne, ne_eq, decide_eq_true_eq] at hk
    obtain ⟨⟨⟨⟨⟨k1, k2⟩, k3⟩, k4⟩, k5⟩, k6⟩ := hk
    rw [getD_set_ne k2] at hL
    exact (Act.eval_put_ne _ md p.2 _ (fun e => k4 e.symm)).trans (h.f p hp hL)
  · refine ⟨w.heap.size, Act.eval_put_same _ _ _ (by rw [h.sz]; simpa using okz), h.below.size, Z, heap_alloc_new _ _, hZ, fun x => ?_⟩
    rw [getD_set_ne (fun y => okm y.symm), hsf] at x
    cases x
  · rw [getD_set_ne (fun y => okm y.symm), hsf] at e
    cases e
theorem Rg.stored (h : Rg W0 a0 own slots val mi md si t n V L a w) (ok : slotsOk own slots mi md si a0.tmps.size = true) (hm : L.getD mi false = true) {g : Nat} (hg : a.eval (.tmp md) = .pointer (some ⟨g, 0, none⟩)) (hV : V.size = n) :
    Rg W0 a0 own slots val mi md si t n V (L.setIfInBounds si true) a (w.setRow g V) := by
  unfold slotsOk at ok
  simp only [Bool.and_eq_true] at ok
  obtain ⟨⟨⟨ok, okd⟩, okm⟩, okz⟩ := ok
  have okm : mi ≠ si := by simpa using okm
  obtain ⟨g', h1, h2, Z, h3, h4, h5⟩ := h.m hm
  rw [hg] at h1
  injection h1 with h1
  injection h1 with h1
  injection h1 with h1
  subst h1
  refine ⟨h.sz, h.df, h.rest, below_setRow_ h.below h2, fun p hp hL => ?_, fun e => ⟨g, hg, h2, _, setRow_heap w g Z _ _ (0, 0) h3, hV, fun _ => rfl⟩, fun _ => by rw [getD_set_ne okm]; exact hm⟩
  have hk := List.all_eq_true.1 ok _ hp
  simp only [Bool.and_eq_true, bne_iff_ne, ne_eq, decide_eq_true_eq] at hk
  obtain ⟨⟨⟨⟨⟨k1, k2⟩, k3⟩, k4⟩, k5⟩, k6⟩ := hk
  rw [getD_set_ne k3] at hL
  exact h.f p hp hL
end
theorem put_form {a : Act} : ∀ (ds : List Nat) (a0 : Act), a.tmps.size = a0.tmps.size → a.defers = a0.defers → (∀ j, j ∉ ds → a.tmps[j]? = a0.tmps[j]?) → a = ds.foldl (fun x d => x.put (some d) (a.eval (.tmp d))) a0
  | [], a0, hs, hd, h => by
    cases a with
    | mk T D =>
      cases a0 with
      | mk T0 D0 =>
        simp only at hs hd h
        subst hd
        refine congrArg (fun t => Act.mk t D) (Array.ext_getElem? fun j => h j (by simp))
  | d :: ds, a0, hs, hd, h => by
    refine put_form ds (a0.put (some d) (a.eval (.tmp d))) (hs.trans (Act.size_put _ _ _).symm) (hd.trans (Act.defers_put' _ _ _).symm) fun j hj => ?_
    show a.tmps[j]? = (a0.tmps.setIfInBounds d (a.tmps.getD d undef))[j]?
    by_cases e : j = d
    · subst e
      by_cases hl : j < a.tmps.size
      · rw [Array.getElem?_setIfInBounds_self, if_pos (by omega)]
        simp [Array.getD, hl]
      · rw [Array.getElem?_eq_none (by omega), Array.getElem?_eq_none (by simp; omega)]
    · rw [Array.getElem?_setIfInBounds_ne (fun x => e x.symm)]
      exact h j (by simp [e, hj])
end Go.Proofs.Ytlfbpcjeohbfkaa.Mem
