/-
  The tables and the first state.
-/
import Derived.Test.YtofjfpnkdcpngaaShaA
namespace Go.Proofs.Ytofjfpnkdcpngaa
open Go.RowKit Mem

def wcells (l : List UInt32) : List Value := l.map fun x => .int .u32 (x.toNat : Int)
theorem wcells_length (l : List UInt32) : (wcells l).length = l.length := List.length_map ..
theorem wcells_one (l : List UInt32) : (wcells l).toArray.all (·.oneCell') = true := by
  simp [wcells, Value.oneCell']
theorem wpList_build_to {P : Program} {ops : Array Oper} {rest : List Oper} {o : Oper} {a : Act} {w : World} {Q : Exit → Act → World → Prop} (hg : o.guard = none) (t : TypeId) (parts : Array (Nat × Operand)) (ho : o.op = .build t parts)
    (cells : Array Value) (hf : P.built t (parts.map fun (i, x) => (i, a.eval x)).toList = some cells)
    (h : wpList P ops Q rest (a.put o.dst (.agg cells)) w) : wpList P ops Q (o :: rest) a w := by
  refine wpList_build hg t parts ho (by rw [hf]; rfl) ?_
  rw [hf]; exact h
theorem below_setRow {B : Nat} {a w : World} {g : Nat} {cs : Array Value} (h : Below B a w) (hg : B ≤ g) : Below B a (w.setRow g cs) :=
  ⟨h.os, h.tape, h.output, by simpa using h.size, fun k hk => by rw [setRow_other _ _ _ _ (by omega)]; exact h.block k hk⟩
set_option maxHeartbeats 400000 in
theorem shafirst (w : World) :
    Calls Try.prog 30 #[] w fun e w' => e = .returned (.agg (wcells (Sh.stL Sh.first)).toArray) ∧ Below w.heap.size w w' := by
  go_enter Try.func30, Try.ntmps30
  go_wp2_with fail
  exact bodyPost_ret (v := .agg (wcells (Sh.stL Sh.first)).toArray) (results_cell_row (P := Try.prog) (d := .array 8 42) rfl _ _ w.heap.size _ _ _ rfl (heap_alloc_new _ _) (by kernel_rfl) rfl (by kernel_rfl)) rfl ⟨rfl, (Below.refl _ _).alloc (Nat.le_refl _) _⟩
set_option maxHeartbeats 400000 in
theorem reffirst (w : World) :
    Calls Try.prog 32 #[] w fun e w' => e = .returned (.agg (wcells (Sh.stL Sh.first)).toArray) ∧ Below w.heap.size w w' := by
  go_enter Try.func32, Try.ntmps32
  go_wp2_with fail
  exact bodyPost_ret (v := .agg (wcells (Sh.stL Sh.first)).toArray) (results_cell_row (P := Try.prog) (d := .array 8 42) rfl _ _ w.heap.size _ _ _ rfl (heap_alloc_new _ _) (by kernel_rfl) rfl (by kernel_rfl)) rfl ⟨rfl, (Below.refl _ _).alloc (Nat.le_refl _) _⟩
set_option maxRecDepth 100000 in
set_option maxHeartbeats 1000000 in
theorem shakeys (w : World) :
    Calls Try.prog 40 #[] w fun e w' => e = .returned (.agg (wcells Sh.ks).toArray) ∧ Below w.heap.size w w' := by
  go_enter Try.func40, Try.ntmps40
  go_wp2_with (first
    | refine wpList_build_to rfl _ _ rfl (wcells Sh.ks).toArray (by kernel_rfl) ?_
    | refine wpList_store_row rfl 53 (.tmp 0) (.tmp 1) rfl w.heap.size (wcells Sh.ks).toArray rfl rfl _ _ (heap_alloc_new _ _) (by kernel_rfl) (by kernel_rfl) (by kernel_rfl) ?_)
  refine bodyPost_ret (v := .agg (wcells Sh.ks).toArray) (results_cell_row (P := Try.prog) (d := .array 64 42) rfl _ _ w.heap.size _ _ _ rfl (setRow_heap _ _ _ _ _ _ (heap_alloc_new _ _)) (by kernel_rfl) rfl (by kernel_rfl)) rfl ⟨rfl, below_setRow ((Below.refl _ _).alloc (Nat.le_refl _) _) (Nat.le_refl _)⟩
set_option maxRecDepth 100000 in
set_option maxHeartbeats 1000000 in
theorem refks (w : World) :
    Calls Try.prog 37 #[] w fun e w' => e = .returned (.agg (wcells Sh.ks).toArray) ∧ Below w.heap.size w w' := by
  go_enter Try.func37, Try.ntmps37
  go_wp2_with (first
    | refine wpList_build_to rfl _ _ rfl (wcells Sh.ks).toArray (by kernel_rfl) ?_
    | refine wpList_store_row rfl 53 (.tmp 0) (.tmp 1) rfl w.heap.size (wcells Sh.ks).toArray rfl rfl _ _ (heap_alloc_new _ _) (by kernel_rfl) (by kernel_rfl) (by kernel_rfl) ?_)
  refine bodyPost_ret (v := .agg (wcells Sh.ks).toArray) (results_cell_row (P := Try.prog) (d := .array 64 42) rfl _ _ w.heap.size _ _ _ rfl (setRow_heap _ _ _ _ _ _ (heap_alloc_new _ _)) (by kernel_rfl) rfl (by kernel_rfl)) rfl ⟨rfl, below_setRow ((Below.refl _ _).alloc (Nat.le_refl _) _) (Nat.le_refl _)⟩
end Go.Proofs.Ytofjfpnkdcpngaa
