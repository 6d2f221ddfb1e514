/-
  A region that draws its order and stores nothing: each operation's value is the same in whatever order; guards are met too.
-/
import Derived.Test.YtlfbpcjeohbfkaaRegGen
import Derived.Deep.MidRow
import Derived.Laws.StructEq
namespace Go.Proofs.Ytlfbpcjeohbfkaa.Mem
open Go.RowKit

/-- what holds while a statement is carried out whose values no order changes -/
structure Rf (W0 : World) (a0 : Act) (slots : List (Nat × Nat)) (val : Nat → Value) (L : Array Bool) (a : Act) (w : World) : Prop where
  sz : a.tmps.size = a0.tmps.size
  df : a.defers = a0.defers
  rest : ∀ j, (slots.map (·.2)).contains j = false → a.tmps[j]? = a0.tmps[j]?
  below : Below W0.heap.size W0 w
  f : ∀ p ∈ slots, L.getD p.1 false = true → a.eval (.tmp p.2) = val p.1
section
variable {W0 : World} {a0 : Act} {slots : List (Nat × Nat)} {val : Nat → Value} {L : Array Bool} {a : Act} {w : World}
theorem Rf.get (h : Rf W0 a0 slots val L a w) (i d : Nat) (hm : (i, d) ∈ slots) (hL : L.getD i false = true) : a.eval (.tmp d) = val i := h.f _ hm hL
theorem Rf.old (h : Rf W0 a0 slots val L a w) {j : Nat} (hj : (slots.map (·.2)).contains j = false) : a.eval (.tmp j) = a0.eval (.tmp j) := by
  simp only [Act.eval, Array.getD_eq_getD_getElem?, h.rest j hj]
end
theorem Act.eval_const_ (a : Act) (v : Value) : a.eval (.const v) = v := rfl
def slotsFix (slots : List (Nat × Nat)) (size : Nat) : Bool := slots.all fun p => decide (p.2 < size) && slots.all fun q => (p.1 == q.1) == (p.2 == q.2)
/-- an operation yields its value and leaves what was there -/
def FixOp (P : Program) (ops : Array Oper) (Q : Exit → Act → World → Prop) (val : Nat → Value) (slots : List (Nat × Nat)) (i : Nat) (a : Act) (w : World) : Prop :=
  ∃ d, (i, d) ∈ slots ∧ wpOp P ops Q i (fun a' w' => a' = a.put (some d) (val i) ∧ Below w.heap.size w w') a w
theorem foldl_vals (a : Act) (val : Nat → Value) : ∀ (slots : List (Nat × Nat)) (x : Act), (∀ p ∈ slots, a.eval (.tmp p.2) = val p.1) →
    (slots.map (·.2)).foldl (fun x d => x.put (some d) (a.eval (.tmp d))) x = slots.foldl (fun x p => x.put (some p.2) (val p.1)) x
  | [], _, _ => rfl
  | p :: r, x, h => by
    simp only [List.map_cons, List.foldl_cons]
    rw [h p (by simp)]
    exact foldl_vals a val r _ (fun q hq => h q (by simp [hq]))
theorem region_fixed {P : Program} {ops : Array Oper} {Q : Exit → Act → World → Prop} (hdep : depOk ops = true) (W0 : World) (a0 : Act) (slots : List (Nat × Nat)) (val : Nat → Value) (ok : slotsFix slots a0.tmps.size = true)
    (hall : slots.all (fun p => decide (p.1 < ops.size)) = true) (n : Nat) (hn : ops.size = n)
    (step : ∀ i L a w, Rf W0 a0 slots val L a w → i < n → (∀ on, ((ops[i]?).map fun o => o.after.any fun e => Region.binds .any e && e.on == on) = some true → L.getD on false = true) → FixOp P ops Q val slots i a w)
    (hQ : ∀ w, Below W0.heap.size W0 w → Q .normal (slots.foldl (fun x p => x.put (some p.2) (val p.1)) a0) w) : wpAny P .any ops Q n (Array.replicate n false) a0 W0.drew := by
  subst hn
  refine wpAny_gen (Rf W0 a0 slots val) hdep ?_ ?_ ops.size _ a0 W0.drew (by simp) (by simp) ⟨rfl, rfl, fun _ _ => rfl, (Below.refl _ _).drew, fun p _ hL => ?_⟩
  · intro i L a w h hL hi hf hneed
    obtain ⟨d, hm, hw⟩ := step i L a w h hi hneed
    refine wpOp_mono ?_ hw
    rintro a' w' ⟨rfl, hb⟩
    have hk := List.all_eq_true.1 ok _ hm
    simp only [Bool.and_eq_true, decide_eq_true_eq] at hk
    obtain ⟨k5, k6⟩ := hk
    refine ⟨(Act.size_put _ _ _).trans h.sz, (Act.defers_put' _ _ _).trans h.df, fun j hj => ?_, h.below.trans (hb.mono h.below.size), fun p hp hLp => ?_⟩
    · rw [← h.rest j hj]
      show (a.tmps.setIfInBounds d _)[j]? = _
      rw [Array.getElem?_setIfInBounds_ne]
      intro e
      subst e
      have : (slots.map (·.2)).contains d = true := by rw [List.contains_iff_mem]; exact List.mem_map.2 ⟨_, hm, rfl⟩
      rw [this] at hj
      cases hj
    · have hq := List.all_eq_true.1 k6 p hp
      by_cases hi : p.1 = i
      · have hd2 : p.2 = d := by
          have : (i == p.1) = true := by simp [hi]
          rw [this] at hq
          have : (d == p.2) = true := by simpa using hq
          exact (beq_iff_eq.1 this).symm
        rw [hi, hd2]
        exact Act.eval_put_same _ _ _ (by rw [h.sz]; exact k5)
      · have hd2 : d ≠ p.2 := by
          intro e
          have h1 : (i == p.1) = false := by simpa using fun e => hi e.symm
          have h2 : (d == p.2) = true := by simp [e]
          simp only [h1, h2] at hq
          cases hq
        rw [getD_set_ne hi] at hLp
        exact (Act.eval_put_ne _ d p.2 _ hd2).trans (h.f p hp hLp)
  · intro L a w hL hL2 h
    have e := put_form (slots.map (·.2)) a0 h.sz h.df (fun j hj => h.rest j (by
      cases hc : (slots.map (·.2)).contains j with
      | false => rfl
      | true => exact absurd (List.contains_iff_mem.1 hc) hj))
    have hall' : ∀ p ∈ slots, a.eval (.tmp p.2) = val p.1 := fun p hp => h.f p hp (hL2 _ (by simpa using List.all_eq_true.1 hall p hp))
    rw [e, foldl_vals a val slots a0 hall']
    exact hQ w h.below
  · simp [Array.getD] at hL
section
variable {P : Program} {ops : Array Oper} {Q : Exit → Act → World → Prop} {val : Nat → Value} {slots : List (Nat × Nat)} {i : Nat} {a : Act} {w : World} {o : Oper}
theorem wanted_none (hg : o.guard = none) : Region.wanted o (yielded ops a.tmps) = true := by simp [Region.wanted, hg]
theorem yielded_of {g dg : Nat} {og : Oper} {b : Bool} (hgo : ops[g]? = some og) (hgd : og.dst = some dg) (hv : a.eval (.tmp dg) = .bool b) : yielded ops a.tmps g = some b := by
  have h1 : a.tmps[dg]? = some (.bool b) := by
    simp only [Act.eval, Array.getD_eq_getD_getElem?] at hv
    cases h : a.tmps[dg]? with
    | none => rw [h] at hv; simp [undef] at hv
    | some v => rw [h] at hv; simpa using hv
  simp [yielded, hgo, hgd, h1]
theorem wanted_some {g dg : Nat} {og : Oper} {b : Bool} (hg : o.guard = some (g, b)) (hgo : ops[g]? = some og) (hgd : og.dst = some dg) (hv : a.eval (.tmp dg) = .bool b) : Region.wanted o (yielded ops a.tmps) = true := by
  simp [Region.wanted, hg, yielded_of hgo hgd hv]
theorem fix_value {d : Nat} (hi : ops[i]? = some o) (hw : Region.wanted o (yielded ops a.tmps) = true) (hd : o.dst = some d) (hm : (i, d) ∈ slots) (hr : (execOp a.eval o).run P w = .ok (.value (val i)) w) : FixOp P ops Q val slots i a w := by
  refine ⟨d, hm, ?_⟩
  unfold wpOp
  rw [hi]
  simp only [hw, if_true]
  left
  unfold Oper.wp
  rw [hr]
  show _ = _ ∧ _
  rw [hd]
  exact ⟨rfl, Below.refl _ _⟩
theorem fix_skip {d g dg : Nat} {og : Oper} {b : Bool} (hi : ops[i]? = some o) (hg : o.guard = some (g, !b)) (hgo : ops[g]? = some og) (hgd : og.dst = some dg) (hv : a.eval (.tmp dg) = .bool b) (hd : o.dst = some d) (hm : (i, d) ∈ slots) (hu : val i = undef) : FixOp P ops Q val slots i a w := by
  refine ⟨d, hm, ?_⟩
  unfold wpOp
  rw [hi]
  have hw : Region.wanted o (yielded ops a.tmps) = false := by simp [Region.wanted, hg, yielded_of hgo hgd hv]
  simp only [hw, Bool.false_eq_true, if_false]
  rw [hd, hu]
  exact ⟨rfl, Below.refl _ _⟩
theorem fix_call {d : Nat} (f : FuncId) (fn : Func) (xs : Array Operand) (ts : Array TypeId) (vs : Array Value) (hi : ops[i]? = some o) (hw : Region.wanted o (yielded ops a.tmps) = true) (hd : o.dst = some d) (hm : (i, d) ∈ slots)
    (ho : o.op = .call { callee := .value (.func f), args := xs, argTypes := ts }) (hv : xs.map a.eval = vs)
    (hf : P.funcs[f]? = some fn) (hn : (fn.name == "runtime.NumGoroutine") = false) (hb : fn.body.isNone = false)
    (h : Calls P f vs w fun e w' => e = .returned (val i) ∧ Below w.heap.size w w') : FixOp P ops Q val slots i a w := by
  refine ⟨d, hm, ?_⟩
  unfold wpOp
  rw [hi]
  simp only [hw, if_true]
  left
  have hb' : fn.body ≠ none := by intro h; rw [h] at hb; cases hb
  have hn' : fn.name ≠ "runtime.NumGoroutine" := by simpa using hn
  have hr : ∀ wx : World, (execOp a.eval o).run P wx = .ok (.enter f vs) wx := fun wx => by
    rw [← hv]
    unfold execOp
    simp [ho, resolve, Act.eval, invoke, Deferred.ofValue, callFunc, hf, hb', hn']
  refine wp_call_ f xs ts vs ho hv hr (h.mono ?_)
  rintro e w' ⟨rfl, hbw⟩
  refine ⟨_, rfl, ?_⟩
  rw [hd]
  exact ⟨rfl, hbw⟩
theorem x_move {x : Operand} {v : Value} (ho : o.op = .move x) (hx : a.eval x = v) : (execOp a.eval o).run P w = .ok (.value v) w := by
  unfold execOp; simp only [ho, hx]; rfl
theorem x_assign {x : Operand} {v : Value} (ho : o.op = .assign x) (hx : a.eval x = v) : (execOp a.eval o).run P w = .ok (.value v) w := by
  unfold execOp; simp only [ho, hx]; rfl
theorem x_pick_t {c x y : Operand} {v : Value} (ho : o.op = .pick c x y) (hc : a.eval c = .bool true) (hx : a.eval x = v) : (execOp a.eval o).run P w = .ok (.value v) w := by
  unfold execOp; simp only [ho, hc, hx]; rfl
theorem x_pick_f {c x y : Operand} {v : Value} (ho : o.op = .pick c x y) (hc : a.eval c = .bool false) (hy : a.eval y = v) : (execOp a.eval o).run P w = .ok (.value v) w := by
  unfold execOp; simp only [ho, hc, hy]; rfl
theorem x_len {x : Operand} {t e : TypeId} {A : Option Addr} {n c : Nat} (ho : o.op = .call { callee := .builtin .len, args := #[x], argTypes := #[t] }) (ht : P.underlying t = some (.slice e)) (hx : a.eval x = .slice A n c) : (execOp a.eval o).run P w = .ok (.value (.int .i64 (n : Int))) w := by
  unfold execOp
  simp only [ho, resolve, List.map_toArray, List.map_cons, List.map_nil, hx]
  simp [invoke, builtin, Builtin.len_, run_underlying ht, go_sem]
theorem x_slice {x : Operand} {t : TypeId} {lo hi : Option Operand} {vx v : Value} {lo' hi' : Option Value} (ho : o.op = .slice t x lo hi none) (ht : P.underlying t = some (.slice (P.elem t))) (hx : a.eval x = vx) (hl : lo.map a.eval = lo') (hh : hi.map a.eval = hi')
    (hr : (Instr.slice t vx lo' hi' none).run P w = .ok v w) : (execOp a.eval o).run P w = .ok (.value v) w := by
  unfold execOp
  simp only [ho, hx, hl, hh, Option.map_none]
  rw [Sem.run_bind, run_sliceAt_slice (P := P) _ _ _ _ _ _ ht, hr]
  rfl
theorem x_eql_agg {x y : Operand} {t t2 : TypeId} {xs ys : Array Value} {b : Bool} (ho : o.op = .binOp .eql t x y t2) (hx : a.eval x = .agg xs) (hy : a.eval y = .agg ys) (hm : P.eqGuardType P.depth t = false)
    (hr : (binOp .eql t (.agg xs) (.agg ys)).run P w = .ok (.bool b) w) : (execOp a.eval o).run P w = .ok (.value (.bool b)) w := by
  unfold execOp
  simp only [ho, hx, hy]
  rw [Sem.run_bind, Sem.run_bind, run_eqGuard_agg _ _ _ _ _ _ _ hm]
  simp only [Result.andThen_ok, hr]
  rfl
theorem x_load_row {x : Operand} {ty : TypeId} {g n : Nat} {cs : List Value} {t : TypeId} {d : TypeDesc} (ho : o.op = .load ty x) (hx : a.eval x = .pointer (some ⟨g, 0, none⟩)) (hg : w.heap[g]? = some (.cells cs.toArray t (0, 0)))
    (hu : P.underlying ty = some d) (hd : d.isRow = true) (hi : (P.info? ty).map (·.size) = some n) (hn : cs.length = n) : (execOp a.eval o).run P w = .ok (.value (.agg cs.toArray)) w := by
  have hc : w.rangeAt g 0 cs := fun j v hv => by
    rw [Nat.zero_add, cell_of_row w g j _ _ (0, 0) hg, List.getElem?_toArray]; exact hv
  unfold execOp
  simp only [ho, hx]
  rw [Sem.run_bind, run_loadAt_mid (P := P) w g 0 ty cs d hc hu hd (by rw [hi, hn])]
  rfl
theorem x_conv {x : Operand} {src dst : TypeId} {vx v : Value} (ho : o.op = .convert src dst x) (hx : a.eval x = vx) (hr : (convert src dst vx).run P w = .ok v w) : (execOp a.eval o).run P w = .ok (.value v) w := by
  unfold execOp
  simp only [ho, hx]
  rw [Sem.run_bind, hr]
  rfl
theorem x_eql_str {x y : Operand} {t t2 : TypeId} {s r : ByteArray} (ho : o.op = .binOp .eql t x y t2) (hx : a.eval x = .string s) (hy : a.eval y = .string r) : (execOp a.eval o).run P w = .ok (.value (.bool (s.toList == r.toList))) w := by
  unfold execOp
  simp only [ho, hx, hy]
  simp [eqGuard, go_sem]
theorem x_eql_int {x y : Operand} {t t2 : TypeId} {k : IntKind} {n m : Int} (ho : o.op = .binOp .eql t x y t2) (hx : a.eval x = .int k n) (hy : a.eval y = .int k m) : (execOp a.eval o).run P w = .ok (.value (.bool (n == m))) w := by
  unfold execOp
  simp only [ho, hx, hy]
  simp [eqGuard, go_sem]
theorem x_eql_true_str {x y : Operand} {t t2 : TypeId} {s : ByteArray} (ho : o.op = .binOp .eql t x y t2) (hx : a.eval x = .string s) (hy : a.eval y = .string s) : (execOp a.eval o).run P w = .ok (.value (.bool true)) w := by
  rw [x_eql_str ho hx hy]; simp
theorem x_eql_true_int {x y : Operand} {t t2 : TypeId} {k : IntKind} {n : Int} (ho : o.op = .binOp .eql t x y t2) (hx : a.eval x = .int k n) (hy : a.eval y = .int k n) : (execOp a.eval o).run P w = .ok (.value (.bool true)) w := by
  rw [x_eql_int ho hx hy]; simp
theorem x_eql_bool {x y : Operand} {t t2 : TypeId} {n m : Bool} (ht : P.underlying t = some .bool) (ho : o.op = .binOp .eql t x y t2) (hx : a.eval x = .bool n) (hy : a.eval y = .bool m) : (execOp a.eval o).run P w = .ok (.value (.bool (n == m))) w := by
  unfold execOp
  simp only [ho, hx, hy]
  simp [eqGuard, go_sem, run_eql_bool, ht]
theorem x_not {x : Operand} {t : TypeId} {b : Bool} (ho : o.op = .unOp .not t x) (hx : a.eval x = .bool b) : (execOp a.eval o).run P w = .ok (.value (.bool (!b))) w := by
  unfold execOp
  simp only [ho, hx]
  simp [go_sem]
end
end Go.Proofs.Ytlfbpcjeohbfkaa.Mem
