/-
  A store of a number into one cell of a row that is known whole, and a load of one: the world behind it is a letter.
-/
import Derived.Test.YtofjfpnkdcpngaaWords
namespace Go.Proofs.Ytofjfpnkdcpngaa.Mem
open Go.RowKit

theorem run_store1 {P : Program} (w : World) (ty : TypeId) (g j : Nat) (k : IntKind) (n : Int) {cs : Array Value} {t : TypeId} (hg : w.heap[g]? = some (.cells cs t (0, 0))) (hj : j < cs.size) (hi : (P.info? ty).map (·.size) = some 1) :
    (storeVar ty ⟨g, j, none⟩ (.int k n)).run P w = .ok () (w.setCell ⟨g, j, none⟩ (.int k n)) := by
  have hc : w.cell? ⟨g, j, none⟩ = some cs[j] := by rw [cell_of_row w g j _ _ (0, 0) hg, Array.getElem?_eq_getElem hj]
  have hf := frozen_of_row w g j _ _ hg
  cases hq : P.info? ty with
  | none => simp [hq] at hi
  | some i =>
    have hs : i.size = 1 := by simpa [hq] using hi
    simp [storeVar, sizeOf, typeInfo, hq, Value.cells, hs, storeCells, stored, hc, hf, go_sem, Addr.add]
theorem wpList_store1 {P : Program} {ops : Array Oper} {rest : List Oper} {o : Oper} {a : Act} {w : World} {Q : Exit → Act → World → Prop} (hgd : o.guard = none) (ty : TypeId) (x y : Operand) (ho : o.op = .store ty x y)
    (g j : Nat) (k : IntKind) (n : Int) (hx : a.eval x = .pointer (some ⟨g, j, none⟩)) (hy : a.eval y = .int k n)
    {cs : Array Value} {t : TypeId} (hg : w.heap[g]? = some (.cells cs t (0, 0))) (hj : j < cs.size) (hi : (P.info? ty).map (·.size) = some 1)
    (h : ∀ w', w'.heap[g]? = some (.cells (cs.setIfInBounds j (.int k n)) t (0, 0)) → w.grownBy w' (some g) → wpList P ops Q rest (a.put o.dst undef) w') : wpList P ops Q (o :: rest) a w :=
  wpList_plain hgd fun _ hK => by
    unfold Oper.wp execOp
    simp only [ho, hx, hy, Instr.storeAt, Instr.sureAddr, Sem.run_bind, Sem.run_pure, Result.andThen_ok, run_store1 w ty g j k n hg hj hi]
    exact hK _ _ (h _ (heap_setCell_same w g j cs t (.int k n) hg) (grown_setCell w g j (.int k n)))
theorem below_by {B : Nat} {W0 w w' : World} {g : Nat} (h : Below B W0 w) (hg : w.grownBy w' (some g)) (hs : B ≤ w.heap.size) (hB : B ≤ g) : Below B W0 w' :=
  h.grown hg hs (fun b hb => by injection hb; omega)
theorem other_by {w w' : World} {g i : Nat} (hg : w.grownBy w' (some g)) (hi : i ≠ g) {o : Obj} (ho : w.heap[i]? = some o) : w'.heap[i]? = some o :=
  (hg.block i (Array.getElem?_eq_some_iff.1 ho).1 (fun e => hi (Option.some.inj e))).trans ho
theorem own_apart {w w' : World} {B size n : Nat} {e : TypeId} {vx vy : Value} {ys : List Value} (hy : w.ownsRow B e size vy n ys) (hx : ∀ k, vx.ownBlock = some k → k < B) (hg : w.grownBy w' vx.ownBlock) : w'.ownsRow B e size vy n ys := by
  refine hy.kept hg ?_
  rcases hb : vy.ownBlock with _ | k
  · exact .inl rfl
  · right
    intro h
    have h1 := (hy.lt k hb).1
    have h2 := hx k h.symm
    omega
end Go.Proofs.Ytofjfpnkdcpngaa.Mem
