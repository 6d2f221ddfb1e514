/-
  Single operations of a drawn region, run from what their operands are.
-/
import Derived.Test.YtilkilffkjhhbaaRgn
import Derived.Test.YtilkilffkjhhbaaLex1
namespace Go.Proofs.Ytilkilffkjhhbaa.Mem
set_option maxRecDepth 20000
set_option linter.unusedVariables false
open Go.RowKit

section
variable {P : Program} {a : Act} {w : World} {o : Oper}
theorem x_field {x : Operand} {t : TypeId} {f : Nat} {ad ad' : Addr} (ho : o.op = .fieldAddr t x f) (hx : a.eval x = .pointer (some ad)) (hr : (Instr.fieldAt t (.pointer (some ad)) f).run P w = .ok (.pointer (some ad')) w) : (execOp a.eval o).run P w = .ok (.value (.pointer (some ad'))) w := by
  unfold execOp
  simp only [ho, hx]
  rw [Sem.run_bind, hr]
  rfl
theorem x_nil {x : Operand} {ad : Addr} (ho : o.op = .nilCheck x) (hx : a.eval x = .pointer (some ad)) : (execOp a.eval o).run P w = .ok (.value (.pointer (some ad))) w := by
  unfold execOp
  simp only [ho, hx]
  simp [go_sem]
theorem x_load {x : Operand} {t : TypeId} {ad : Addr} {v : Value} (ho : o.op = .load t x) (hx : a.eval x = .pointer (some ad)) (hr : (Instr.loadAt t (.pointer (some ad))).run P w = .ok v w) : (execOp a.eval o).run P w = .ok (.value v) w := by
  unfold execOp
  simp only [ho, hx]
  rw [Sem.run_bind, hr]
  rfl
theorem x_index {x y : Operand} {t : TypeId} {vx vy v : Value} (ho : o.op = .indexAddr t x y) (hx : a.eval x = vx) (hy : a.eval y = vy) (hr : (Instr.indexAt t vx vy).run P w = .ok v w) : (execOp a.eval o).run P w = .ok (.value v) w := by
  unfold execOp
  simp only [ho, hx, hy]
  rw [Sem.run_bind, hr]
  rfl
theorem x_alloc {t : TypeId} {v : Value} {w' : World} (ho : o.op = .alloc t) (hr : (Instr.alloc t true (.tuple #[])).run P w = .ok v w') : (execOp a.eval o).run P w = .ok (.value v) w' := by
  unfold execOp
  simp only [ho]
  rw [Sem.run_bind, hr]
  rfl
theorem x_addstr {x y : Operand} {t t2 : TypeId} {l m : List UInt8} (ho : o.op = .binOp .add t x y t2) (hx : a.eval x = .string ⟨l.toArray⟩) (hy : a.eval y = .string ⟨m.toArray⟩) (hl : l.length + m.length ≤ 9223372036854775807) : (execOp a.eval o).run P w = .ok (.value (.string ⟨(l ++ m).toArray⟩)) w := by
  unfold execOp
  simp only [ho, hx, hy]
  have h := ba_append l m
  simp [eqGuard, go_sem]
  rw [if_neg (by omega), h]
end
end Go.Proofs.Ytilkilffkjhhbaa.Mem
