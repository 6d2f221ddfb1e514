/-
  The drawn statement of the reference's Sum: a block's step, whatever the order.
-/
import Derived.Test.YtofjfpnkdcpngaaShaV
import Derived.Test.YtofjfpnkdcpngaaRegMade
import Derived.Test.YtofjfpnkdcpngaaRegFix
namespace Go.Proofs.Ytofjfpnkdcpngaa
open Go.RowKit Mem

set_option linter.unusedVariables false
noncomputable def rsumOps : Array Oper := findOps 9 ((Try.f25).body.getD (.exit 0))
def rsumSlots : List (Nat × Nat) := [(0, 32), (1, 33), (2, 34), (3, 35), (4, 36), (5, 37), (6, 38), (7, 31), (8, 39), (9, 40), (12, 9)]
def rsumVal (sl v : List UInt32) (A A1 : Option Addr) (n c c1 k : Nat) : Nat → Value
  | 0 => .agg (wcells sl).toArray
  | 1 => .slice A n c
  | 2 => .int .i64 (64 * (k : Int))
  | 3 => .int .i64 (64 * (k : Int))
  | 4 => .int .i64 (64 * (k : Int) + 64)
  | 5 => .slice A1 64 c1
  | 6 => .tuple #[.agg (wcells v).toArray, .int .i64 0]
  | 7 => .tuple #[.agg (wcells v).toArray, .int .i64 0]
  | 8 => .agg (wcells v).toArray
  | 9 => .int .i64 0
  | _ => .int .i64 0
theorem rsumRegion {Q : Exit → Act → World → Prop} (a0 : Act) (W0 : World) (hs : 40 < a0.tmps.size) (sl v : List UInt32) (hs8 : sl.length = 8) (hv8 : v.length = 8) (A A1 : Option Addr) (n c c1 g k : Nat) (hstep : ∀ W, Below W0.heap.size W0 W → Calls Try.prog 33 #[.agg (wcells sl).toArray, .slice A1 64 c1] W fun e w' => e = .returned (.tuple #[.agg (wcells v).toArray, .int .i64 0]) ∧ Below W.heap.size W w') (hsl : ∀ wx, (Instr.slice 22 (.slice A n c) (some (.int .i64 (64 * (k : Int)))) (some (.int .i64 (64 * (k : Int) + 64))) none).run Try.prog wx = .ok (.slice A1 64 c1) wx) (hk : IntKind.i64.wrap (64 * (k : Int) + 64) = 64 * (k : Int) + 64) (hr : W0.heap[g]? = some (.cells (wcells sl).toArray 43 (0, 0)))
    (e5 : a0.eval (.tmp 5) = .slice A n c)
    (e6 : a0.eval (.tmp 6) = .pointer (some ⟨g, 0, none⟩))
    (e7 : a0.eval (.tmp 7) = .int .i64 (64 * (k : Int)))
    (hQ : ∀ w g, Below W0.heap.size W0 w → W0.heap.size ≤ g → w.heap[g]? = some (.cells (wcells v).toArray 43 (0, 0)) → Q .normal (rsumSlots.foldl (fun x p => x.put (some p.2) ((rsumVal sl v A A1 n c c1 k) p.1)) (a0.put (some 8) (.pointer (some ⟨g, 0, none⟩)))) w) :
    wpAny Try.prog .any rsumOps Q 13 (Array.replicate 13 false) a0 W0.drew := by
  have ok : slotsOk (ownMade rsumSlots 8) rsumSlots 10 8 11 a0.tmps.size = true := by
    have : ∀ z, 40 < z → slotsOk (ownMade rsumSlots 8) rsumSlots 10 8 11 z = true := by
      intro z hz
      simp [slotsOk, ownMade, rsumSlots]
      omega
    exact this _ hs
  have hi8 : (Try.prog.info? 43).map (·.size) = some 8 := by kernel_rfl
  have hvs : (wcells v).toArray.size = 8 := by rw [List.size_toArray, wcells_length, hv8]
  have hgl : g < W0.heap.size := (Array.getElem?_eq_some_iff.1 hr).1
  refine region_made (by kernel_rfl) W0 a0 rsumSlots (rsumVal sl v A A1 n c c1 k) 10 8 11 8 39 43 43 (Array.replicate 8 (.int .u32 0)) (wcells v).toArray ok (by kernel_rfl) 13 (by kernel_rfl) (by decide) (by decide) ⟨_, rfl, rfl, rfl, rfl⟩ alloc23 ⟨_, rfl, rfl, rfl, rfl⟩ (by decide) rfl (by rw [hi8, hvs]) (by rw [hvs]; rfl) (wcells_one _) (by kernel_rfl) (by kernel_rfl) ?_ hQ
  intro i L a w h hi hn1 hn2 hneed
  rcases (show i = 0 ∨ i = 1 ∨ i = 2 ∨ i = 3 ∨ i = 4 ∨ i = 5 ∨ i = 6 ∨ i = 7 ∨ i = 8 ∨ i = 9 ∨ i = 12 by omega) with rfl | rfl | rfl | rfl | rfl | rfl | rfl | rfl | rfl | rfl | rfl
  · exact fix_value (i := 0) (d := 32) rfl (wanted_none rfl) rfl (by decide) (x_load_row (d := .array 8 42) rfl ((h.old rfl).trans e6) ((h.below.block _ hgl).trans hr) (by kernel_rfl) rfl hi8 (by rw [wcells_length, hs8]))
  · exact fix_value (i := 1) (d := 33) rfl (wanted_none rfl) rfl (by decide) (x_move rfl ((h.old rfl).trans e5))
  · exact fix_value (i := 2) (d := 34) rfl (wanted_none rfl) rfl (by decide) (x_move rfl ((h.old rfl).trans e7))
  · exact fix_value (i := 3) (d := 35) rfl (wanted_none rfl) rfl (by decide) (x_move rfl ((h.old rfl).trans e7))
  · exact fix_value (i := 4) (d := 36) rfl (wanted_none rfl) rfl (by decide) (x_add rfl (h.get 3 35 (by decide) (hneed 3 (by kernel_rfl))) rfl hk)
  · exact fix_value (i := 5) (d := 37) rfl (wanted_none rfl) rfl (by decide) (x_slice rfl (by kernel_rfl) (h.get 1 33 (by decide) (hneed 1 (by kernel_rfl))) (congrArg some (h.get 2 34 (by decide) (hneed 2 (by kernel_rfl)))) (congrArg some (h.get 4 36 (by decide) (hneed 4 (by kernel_rfl)))) (hsl w))
  · refine fix_call (i := 6) (d := 38) 33 Try.f33 #[.tmp 32, .tmp 37] _ #[.agg (wcells sl).toArray, .slice A1 64 c1] rfl (wanted_none rfl) rfl (by decide) rfl (by simp [(h.get 0 32 (by decide) (hneed 0 (by kernel_rfl))), (h.get 5 37 (by decide) (hneed 5 (by kernel_rfl))), rsumVal]) Try.func33 (by kernel_rfl) (by kernel_rfl) ?_
    exact hstep w h.below
  · exact fix_value (i := 7) (d := 31) rfl (wanted_none rfl) rfl (by decide) (x_move rfl (h.get 6 38 (by decide) (hneed 6 (by kernel_rfl))))
  · exact fix_value (i := 8) (d := 39) rfl (wanted_none rfl) rfl (by decide) (x_extract rfl (h.get 7 31 (by decide) (hneed 7 (by kernel_rfl))) rfl)
  · exact fix_value (i := 9) (d := 40) rfl (wanted_none rfl) rfl (by decide) (x_extract rfl (h.get 7 31 (by decide) (hneed 7 (by kernel_rfl))) rfl)
  · exact fix_value (i := 12) (d := 9) rfl (wanted_none rfl) rfl (by decide) (x_assign rfl (h.get 9 40 (by decide) (hneed 9 (by kernel_rfl))))
end Go.Proofs.Ytofjfpnkdcpngaa
