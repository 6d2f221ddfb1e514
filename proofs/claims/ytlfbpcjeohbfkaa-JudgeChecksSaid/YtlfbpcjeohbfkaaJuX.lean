/-
  The run of single operations on memory: a field's address, an element's, loads and stores, a new block.
-/
import Derived.Test.YtlfbpcjeohbfkaaRegChain
namespace Go.Proofs.Ytlfbpcjeohbfkaa.Mem
open Go.RowKit

section
variable {P : Program} {a : Act} {w : World} {o : Oper}
theorem x_field {x : Operand} {t : TypeId} {f : Nat} {ad ad' : Addr} (ho : o.op = .fieldAddr t x f) (hx : a.eval x = .pointer (some ad)) (hr : (Instr.fieldAt t (.pointer (some ad)) f).run P w = .ok (.pointer (some ad')) w) : (execOp a.eval o).run P w = .ok (.value (.pointer (some ad'))) w := by
  unfold execOp
  simp only [ho, hx]
  rw [Sem.run_bind, hr]
  rfl
theorem x_nil {x : Operand} {ad : Addr} (ho : o.op = .nilCheck x) (hx : a.eval x = .pointer (some ad)) : (execOp a.eval o).run P w = .ok (.value (.pointer (some ad))) w := by
  unfold execOp
  simp only [ho, hx]
  simp [go_sem]
theorem x_load {x : Operand} {t : TypeId} {ad : Addr} {v : Value} (ho : o.op = .load t x) (hx : a.eval x = .pointer (some ad)) (hr : (Instr.loadAt t (.pointer (some ad))).run P w = .ok v w) : (execOp a.eval o).run P w = .ok (.value v) w := by
  unfold execOp
  simp only [ho, hx]
  rw [Sem.run_bind, hr]
  rfl
theorem x_index {x y : Operand} {t : TypeId} {vx vy v : Value} (ho : o.op = .indexAddr t x y) (hx : a.eval x = vx) (hy : a.eval y = vy) (hr : (Instr.indexAt t vx vy).run P w = .ok v w) : (execOp a.eval o).run P w = .ok (.value v) w := by
  unfold execOp
  simp only [ho, hx, hy]
  rw [Sem.run_bind, hr]
  rfl
theorem x_alloc {t : TypeId} {v : Value} {w' : World} (ho : o.op = .alloc t) (hr : (Instr.alloc t true (.tuple #[])).run P w = .ok v w') : (execOp a.eval o).run P w = .ok (.value v) w' := by
  unfold execOp
  simp only [ho]
  rw [Sem.run_bind, hr]
  rfl
end
end Go.Proofs.Ytlfbpcjeohbfkaa.Mem
