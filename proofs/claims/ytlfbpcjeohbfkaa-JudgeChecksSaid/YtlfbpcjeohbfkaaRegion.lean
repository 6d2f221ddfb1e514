/-
  A region that draws its order, by an invariant: each operation is met once, whatever was done before it.
-/
import Derived.Test.YtlfbpcjeohbfkaaMem
import Derived.Orders
import Derived.RegionTactic
import Derived.Laws.Tables
namespace Go.Proofs.Ytlfbpcjeohbfkaa.Mem
open Go.RowKit

/-- the operations of a region, by its number -/
def findOps (n : Nat) : Code → Array Oper
  | .region id ops _ => if id = n then ops else #[]
  | .seq a b => if (findOps n a).isEmpty then findOps n b else findOps n a
  | .cond _ a b => if (findOps n a).isEmpty then findOps n b else findOps n a
  | .block _ c => findOps n c
  | .loop c => findOps n c
  | .scope c => findOps n c
  | _ => #[]
theorem wpAny_inv {P : Program} {md : Region.Mode} {ops : Array Oper} {Q : Exit → Act → World → Prop} (I : Nat → Array Bool → Act → World → Prop)
    (h0 : ∀ L a w, I 0 L a w → Region.ready md ops L = [] ∧ Q .normal a w)
    (hs : ∀ f L a w, I (f + 1) L a w → Region.ready md ops L ≠ [] ∧ ∀ i ∈ Region.ready md ops L, wpOp P ops Q i (I f (L.setIfInBounds i true)) a w) :
    ∀ f L a w, I f L a w → wpAny P md ops Q f L a w
  | 0, L, a, w, h => h0 L a w h
  | f + 1, L, a, w, h => ⟨fun e => absurd e (hs f L a w h).1, fun i hi => wpOp_mono (fun a w h => wpAny_inv I h0 hs f _ a w h) ((hs f L a w h).2 i hi)⟩
theorem wpOp_of {P : Program} {ops : Array Oper} {Q : Exit → Act → World → Prop} {i : Nat} {K : Act → World → Prop} {a : Act} {w : World} {o : Oper} (hi : ops[i]? = some o) (hg : o.guard = none)
    (h : o.wp P a w K Q) : wpOp P ops Q i K a w := by
  unfold wpOp
  rw [hi]
  simp only [Region.wanted, hg, if_true]
  exact .inl h
section
variable {P : Program} {o : Oper} {a : Act} {w : World} {K : Act → World → Prop} {Q : Exit → Act → World → Prop}
theorem wp_move_ (x : Operand) (ho : o.op = .move x) (h : K (a.put o.dst (a.eval x)) w) : o.wp P a w K Q := by
  unfold Oper.wp execOp
  simp only [ho]
  exact h
theorem wp_alloc_ (t : TypeId) (Z : Array Value) (ho : o.op = .alloc t) (hr : (Instr.alloc t true (.tuple #[])).run P w = .ok (.pointer (some ⟨w.heap.size, 0, none⟩)) (w.alloc (.cells Z t)))
    (h : K (a.put o.dst (.pointer (some ⟨w.heap.size, 0, none⟩))) (w.alloc (.cells Z t))) : o.wp P a w K Q := by
  unfold Oper.wp execOp
  simp only [ho, Sem.run_bind, hr, Result.andThen_ok, Sem.run_pure]
  exact h
theorem wp_call_ (f : FuncId) (xs : Array Operand) (ts : Array TypeId) (vs : Array Value) (ho : o.op = .call { callee := .value (.func f), args := xs, argTypes := ts }) (hv : xs.map a.eval = vs)
    (hr : ∀ wx : World, (execOp a.eval o).run P wx = .ok (.enter f vs) wx)
    (h : Calls P f vs w fun e w' => ∃ v, e = .returned v ∧ K (a.put o.dst v) w') : o.wp P a w K Q := by
  unfold Oper.wp
  rw [hr w, Oper.upon_enter]
  refine h.mono ?_
  rintro e w' ⟨v, rfl, hk⟩
  exact hk
end
end Go.Proofs.Ytlfbpcjeohbfkaa.Mem
