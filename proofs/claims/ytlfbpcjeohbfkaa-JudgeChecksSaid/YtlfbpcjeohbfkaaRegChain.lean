/-
  A region that draws its order, some of whose operations make, store or yield what no value names: an invariant over these, the other values are fixed.
-/
import Derived.Test.YtlfbpcjeohbfkaaRegFix
namespace Go.Proofs.Ytlfbpcjeohbfkaa.Mem
open Go.RowKit

def chainOk (slots : List (Nat × Nat)) (ch : List (Nat × Option Nat)) (size : Nat) : Bool :=
  ch.all fun q => (match q.2 with | none => true | some d => decide (d < size) && !((slots.map (·.2)).contains d)) && !((slots.map (·.1)).contains q.1)
theorem region_chain {P : Program} {ops : Array Oper} {Q : Exit → Act → World → Prop} (hdep : depOk ops = true) (W0 : World) (a0 : Act) (slots : List (Nat × Nat)) (val : Nat → Value) (ch : List (Nat × Option Nat)) (C : (Nat → Bool) → (Nat → Value) → World → Prop)
    (ok : slotsFix slots a0.tmps.size = true) (okc : chainOk slots ch a0.tmps.size = true) (n : Nat) (hn : ops.size = n) (hall : slots.all (fun p => decide (p.1 < n)) = true) (hallc : ch.all (fun p => decide (p.1 < n)) = true)
    (hC : ∀ L L' vs w, (∀ p ∈ ch, L p.1 = L' p.1) → C L vs w → C L' vs w)
    (hbel : ∀ L vs w w', C L vs w → Below w.heap.size w w' → C L vs w')
    (hstart : C (fun _ => false) (fun d => a0.eval (.tmp d)) W0.drew)
    (step : ∀ a1 i L a w, (∀ j, (ch.map (·.2)).contains (some j) = false → a1.eval (.tmp j) = a0.eval (.tmp j)) → Rf W0 a1 slots val L a w → C (fun i => L.getD i false) (fun d => a1.eval (.tmp d)) w → i < n → L.getD i false = false →
      (∀ on, ((ops[i]?).map fun o => o.after.any fun e => Region.binds .any e && e.on == on) = some true → L.getD on false = true) →
      FixOp P ops Q val slots i a w ∨ ∃ d, (i, d) ∈ ch ∧ wpOp P ops Q i (fun a' w' => ∃ v, a' = a.put d v ∧ Below W0.heap.size W0 w' ∧ C (fun j => if j = i then true else L.getD j false) (fun s => if some s = d then v else a1.eval (.tmp s)) w') a w)
    (hQ : ∀ (vs : Nat → Value) w, Below W0.heap.size W0 w → C (fun _ => true) vs w → Q .normal (slots.foldl (fun x p => x.put (some p.2) (val p.1)) ((ch.filterMap (·.2)).foldl (fun x d => x.put (some d) (vs d)) a0)) w) :
    wpAny P .any ops Q n (Array.replicate n false) a0 W0.drew := by
  subst hn
  refine wpAny_gen (fun L a w => ∃ a1 : Act, a1.tmps.size = a0.tmps.size ∧ a1.defers = a0.defers ∧ (∀ j, (ch.map (·.2)).contains (some j) = false → a1.tmps[j]? = a0.tmps[j]?) ∧ Rf W0 a1 slots val L a w ∧ C (fun i => L.getD i false) (fun d => a1.eval (.tmp d)) w) hdep ?_ ?_ ops.size _ a0 W0.drew (by simp) (by simp) ⟨a0, rfl, rfl, fun _ _ => rfl, ⟨rfl, rfl, fun _ _ => rfl, (Below.refl _ _).drew, fun p _ hL => ?_⟩, ?_⟩
  · rintro i L a w ⟨a1, hs1, hd1, hr1, h, hc⟩ hL hi hf hneed
    have hev : ∀ j, (ch.map (·.2)).contains (some j) = false → a1.eval (.tmp j) = a0.eval (.tmp j) := fun j hj => by
      simp only [Act.eval, Array.getD_eq_getD_getElem?, hr1 j hj]
    rcases step a1 i L a w hev h hc hi hf hneed with ⟨d, hm, hw⟩ | ⟨d, hm, hw⟩
    · refine wpOp_mono ?_ hw
      rintro a' w' ⟨rfl, hb⟩
      have hk := List.all_eq_true.1 ok _ hm
      simp only [Bool.and_eq_true, decide_eq_true_eq] at hk
      obtain ⟨k5, k6⟩ := hk
      refine ⟨a1, hs1, hd1, hr1, ⟨(Act.size_put _ _ _).trans h.sz, (Act.defers_put' _ _ _).trans h.df, fun j hj => ?_, h.below.trans (hb.mono h.below.size), fun p hp hLp => ?_⟩, ?_⟩
      · rw [← h.rest j hj]
        show (a.tmps.setIfInBounds d _)[j]? = _
        rw [Array.getElem?_setIfInBounds_ne]
        intro e
        subst e
        have : (slots.map (·.2)).contains d = true := by rw [List.contains_iff_mem]; exact List.mem_map.2 ⟨_, hm, rfl⟩
        rw [this] at hj
        cases hj
      · have hq := List.all_eq_true.1 k6 p hp
        by_cases hi : p.1 = i
        · have hd2 : p.2 = d := by
            have : (i == p.1) = true := by simp [hi]
            rw [this] at hq
            have : (d == p.2) = true := by simpa using hq
            exact (beq_iff_eq.1 this).symm
          rw [hi, hd2]
          exact Act.eval_put_same _ _ _ (by rw [h.sz, hs1]; exact k5)
        · have hd2 : d ≠ p.2 := by
            intro e
            have h1 : (i == p.1) = false := by simpa using fun e => hi e.symm
            have h2 : (d == p.2) = true := by simp [e]
            simp only [h1, h2] at hq
            cases hq
          rw [getD_set_ne hi] at hLp
          exact (Act.eval_put_ne _ d p.2 _ hd2).trans (h.f p hp hLp)
      · refine hbel _ _ _ _ (hC _ _ _ _ (fun q hq => ?_) hc) hb
        have hqk := List.all_eq_true.1 okc q hq
        have hne : q.1 ≠ i := by
          rintro rfl
          have : (slots.map (·.1)).contains q.1 = true := by rw [List.contains_iff_mem]; exact List.mem_map.2 ⟨_, hm, rfl⟩
          rw [this] at hqk
          simp at hqk
        rw [getD_set_ne hne]
    · refine wpOp_mono ?_ hw
      rintro a' w' ⟨v, rfl, hb, hc'⟩
      have hqk := List.all_eq_true.1 okc _ hm
      have hni : ∀ p ∈ slots, p.1 ≠ i := by
        rintro p hp rfl
        have : (slots.map (·.1)).contains p.1 = true := by rw [List.contains_iff_mem]; exact List.mem_map.2 ⟨_, hp, rfl⟩
        rw [this] at hqk
        simp at hqk
      have hset : ∀ j, (L.setIfInBounds i true).getD j false = if j = i then true else L.getD j false := fun j => getD_set (by rw [hL]; exact hi) j
      cases d with
      | none =>
        refine ⟨a1, hs1, hd1, hr1, ⟨h.sz, h.df, h.rest, hb, fun p hp hLp => ?_⟩, ?_⟩
        · rw [getD_set_ne (hni p hp)] at hLp
          exact h.f p hp hLp
        · refine hC (fun j => if j = i then true else L.getD j false) _ _ _ (fun q _ => (hset q.1).symm) ?_
          simpa using hc'
      | some d =>
        simp only [Bool.and_eq_true, decide_eq_true_eq, Bool.not_eq_true'] at hqk
        obtain ⟨⟨hd0, hd2⟩, hd3⟩ := hqk
        refine ⟨a1.put (some d) v, (Act.size_put _ _ _).trans hs1, (Act.defers_put' _ _ _).trans hd1, fun j hj => ?_, ⟨(Act.size_put _ _ _).trans (h.sz.trans (Act.size_put _ _ _).symm), (Act.defers_put' _ _ _).trans (h.df.trans (Act.defers_put' _ _ _).symm), fun j hj => ?_, hb, fun p hp hLp => ?_⟩, ?_⟩
        · rw [← hr1 j hj]
          show (a1.tmps.setIfInBounds d _)[j]? = _
          rw [Array.getElem?_setIfInBounds_ne]
          intro e
          subst e
          have : (ch.map (·.2)).contains (some d) = true := by rw [List.contains_iff_mem]; exact List.mem_map.2 ⟨_, hm, rfl⟩
          rw [this] at hj
          cases hj
        · show (a.tmps.setIfInBounds d _)[j]? = (a1.tmps.setIfInBounds d _)[j]?
          rw [Array.getElem?_setIfInBounds, Array.getElem?_setIfInBounds, h.sz, h.rest j hj]
        · rw [getD_set_ne (hni p hp)] at hLp
          have hd4 : d ≠ p.2 := by
            rintro rfl
            have : (slots.map (·.2)).contains p.2 = true := by rw [List.contains_iff_mem]; exact List.mem_map.2 ⟨_, hp, rfl⟩
            rw [this] at hd2
            cases hd2
          exact (Act.eval_put_ne _ d p.2 _ hd4).trans (h.f p hp hLp)
        · refine hC (fun j => if j = i then true else L.getD j false) _ _ _ (fun q _ => (hset q.1).symm) ?_
          have e : (fun s => if some s = some d then v else a1.eval (.tmp s)) = fun s => (a1.put (some d) v).eval (.tmp s) := by
            funext s
            by_cases hs : s = d
            · subst hs
              rw [if_pos rfl, Act.eval_put_same _ _ _ (by rw [hs1]; exact hd0)]
            · rw [if_neg (fun e => hs (Option.some.inj e)), Act.eval_put_ne _ d s _ (fun e => hs e.symm)]
          rw [e] at hc'
          exact hc'
  · rintro L a w hL hL2 ⟨a1, hs1, hd1, hr1, h, hc⟩
    have e := put_form (slots.map (·.2)) a1 h.sz h.df (fun j hj => h.rest j (by
      cases hc : (slots.map (·.2)).contains j with
      | false => rfl
      | true => exact absurd (List.contains_iff_mem.1 hc) hj))
    have hall' : ∀ p ∈ slots, a.eval (.tmp p.2) = val p.1 := fun p hp => h.f p hp (hL2 _ (by simpa using List.all_eq_true.1 hall p hp))
    have e1 := put_form (ch.filterMap (·.2)) a0 hs1 hd1 (fun j hj => hr1 j (by
      cases hc : (ch.map (·.2)).contains (some j) with
      | false => rfl
      | true =>
        refine absurd ?_ hj
        obtain ⟨p, hp, hp2⟩ := List.mem_map.1 (List.contains_iff_mem.1 hc)
        exact List.mem_filterMap.2 ⟨p, hp, hp2⟩))
    rw [e, foldl_vals a val slots a1 hall']
    rw [e1]
    refine hQ (fun d => a1.eval (.tmp d)) w h.below (hC _ _ _ _ (fun q hq => hL2 _ (by simpa using List.all_eq_true.1 hallc q hq)) hc)
  · simp [Array.getD] at hL
  · refine hC _ _ _ _ (fun q _ => ?_) hstart
    simp [Array.getD]
section
variable {P : Program} {ops : Array Oper} {Q : Exit → Act → World → Prop} {K : Act → World → Prop} {i : Nat} {a : Act} {w w' : World} {o : Oper} {v : Value}
theorem wpAny_by {md : Region.Mode} {ops' : Array Oper} {f : Nat} {L : Array Bool} (h : ops' = ops) (h2 : wpAny P md ops' Q f L a w) : wpAny P md ops Q f L a w := h ▸ h2
theorem ch_oper (hi : ops[i]? = some o) (hw : Region.wanted o (yielded ops a.tmps) = true) (h : o.wp P a w K Q) : wpOp P ops Q i K a w := by
  unfold wpOp
  rw [hi]
  simp only [hw, if_true]
  left
  exact h
theorem ch_value (hi : ops[i]? = some o) (hw : Region.wanted o (yielded ops a.tmps) = true) (hr : (execOp a.eval o).run P w = .ok (.value v) w') (hK : K (a.put o.dst v) w') : wpOp P ops Q i K a w := by
  refine ch_oper hi hw ?_
  unfold Oper.wp
  rw [hr]
  exact hK
theorem ch_call (f : FuncId) (fn : Func) (xs : Array Operand) (ts : Array TypeId) (vs : Array Value) (hi : ops[i]? = some o) (hw : Region.wanted o (yielded ops a.tmps) = true)
    (ho : o.op = .call { callee := .value (.func f), args := xs, argTypes := ts }) (hv : xs.map a.eval = vs)
    (hf : P.funcs[f]? = some fn) (hn : (fn.name == "runtime.NumGoroutine") = false) (hb : fn.body.isNone = false)
    (h : Calls P f vs w fun e w' => ∃ v, e = .returned v ∧ K (a.put o.dst v) w') : wpOp P ops Q i K a w := by
  refine ch_oper hi hw ?_
  have hb' : fn.body ≠ none := by intro h; rw [h] at hb; cases hb
  have hn' : fn.name ≠ "runtime.NumGoroutine" := by simpa using hn
  have hr : ∀ wx : World, (execOp a.eval o).run P wx = .ok (.enter f vs) wx := fun wx => by
    rw [← hv]
    unfold execOp
    simp [ho, resolve, Act.eval, invoke, Deferred.ofValue, callFunc, hf, hb', hn']
  exact wp_call_ f xs ts vs ho hv hr h
theorem x_make {n c : Operand} {t : TypeId} {vn vc : Value} (ho : o.op = .makeSlice t n c) (hn : a.eval n = vn) (hc : a.eval c = vc) (hr : (Instr.makeSlice t vn vc).run P w = .ok v w') : (execOp a.eval o).run P w = .ok (.value v) w' := by
  unfold execOp
  simp only [ho, hn, hc]
  rw [Sem.run_bind, hr]
  rfl
theorem x_add64 {x y : Operand} {t t2 : TypeId} {n m : Int} (ho : o.op = .binOp .add t x y t2) (hx : a.eval x = .int .i64 n) (hy : a.eval y = .int .i64 m) (hw : IntKind.i64.wrap (n + m) = n + m) : (execOp a.eval o).run P w = .ok (.value (.int .i64 (n + m))) w := by
  unfold execOp
  simp only [ho, hx, hy]
  simp [eqGuard, go_sem, hw]
end
end Go.Proofs.Ytlfbpcjeohbfkaa.Mem
