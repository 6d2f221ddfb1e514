/-
  The drawn statement of Tag of the package mac, whatever the order.
-/
import Derived.Test.YtofjfpnkdcpngaaMacC
import Derived.Test.YtofjfpnkdcpngaaRegFix
namespace Go.Proofs.Ytofjfpnkdcpngaa
open Go.RowKit Mem

set_option linter.unusedVariables false
noncomputable def mtagOps : Array Oper := findOps 3 ((Try.f13).body.getD (.exit 0))
def mtagSlots : List (Nat × Nat) := [(0, 12), (1, 13), (2, 14)]
def mtagVal (blk D : List UInt8) (g6 : Nat) : Nat → Value
  | 0 => .agg (bcells blk).toArray
  | 1 => .slice (some ⟨g6, 0, none⟩) 32 32
  | _ => .agg (bcells D).toArray
theorem mtagRegion {Q : Exit → Act → World → Prop} (a0 : Act) (W0 : World) (hs : 14 < a0.tmps.size) (blk d1 D : List UInt8) (hb64 : blk.length = 64) (hd32 : d1.length = 32) (hD : D.length = 32) (g g5 g6 : Nat) (hne5 : g5 ≠ g) (hne6 : g6 ≠ g) (h5 : W0.heap[g5]? = some (.cells (bcells blk).toArray 25 (0, 0))) (h6 : W0.heap[g6]? = some (.cells (bcells d1).toArray 27 (0, 0))) (hdig : ∀ W, Src W (some ⟨g6, 0, none⟩) 32 32 (bcells d1) 1 → Calls Try.prog 26 #[.agg (bcells blk).toArray, .int .u8 92, .slice (some ⟨g6, 0, none⟩) 32 32] W fun e w' => e = .returned (.agg (bcells D).toArray) ∧ Below W.heap.size W w') (hrow : ∃ Z : Array Value, W0.heap[g]? = some (.cells Z 27 (0, 0)) ∧ Z.size = 32)
    (e4 : a0.eval (.tmp 4) = .pointer (some ⟨g, 0, none⟩))
    (e5 : a0.eval (.tmp 5) = .pointer (some ⟨g5, 0, none⟩))
    (e6 : a0.eval (.tmp 6) = .pointer (some ⟨g6, 0, none⟩))
    (hQ : ∀ w, W0.grownBy w (some g) → w.heap[g]? = some (.cells (bcells D).toArray 27 (0, 0)) → Q .normal (mtagSlots.foldl (fun x p => x.put (some p.2) ((mtagVal blk D g6) p.1)) a0) w) :
    wpAny Try.prog .any mtagOps Q 4 (Array.replicate 4 false) a0 W0.drew := by
  have ok : slotsFix mtagSlots a0.tmps.size = true := by
    have : ∀ z, 14 < z → slotsFix mtagSlots z = true := by
      intro z hz
      simp [slotsFix, mtagSlots]
      omega
    exact this _ hs
  have hi64 : (Try.prog.info? 25).map (·.size) = some 64 := by kernel_rfl
  have hi32 : (Try.prog.info? 27).map (·.size) = some 32 := by kernel_rfl
  have hDs : (bcells D).toArray.size = 32 := by rw [List.size_toArray, bcells_length, hD]
  refine region_put (by kernel_rfl) W0 a0 mtagSlots (mtagVal blk D g6) g 3 2 14 4 27 27 (bcells D).toArray ok (by kernel_rfl) (by kernel_rfl) 4 (by kernel_rfl) (by decide) ⟨_, rfl, rfl, rfl, rfl⟩ (by decide) rfl e4 rfl (by rw [hi32, hDs]) (cells_one32 D) (by rw [hDs]; exact hrow) (by kernel_rfl) ?_ hQ
  intro i L a w h hi hn2 hneed
  rcases (show i = 0 ∨ i = 1 ∨ i = 2 by omega) with rfl | rfl | rfl
  · exact fix_value (i := 0) (d := 12) rfl (wanted_none rfl) rfl (by decide) (x_load_row (d := .array 64 5) rfl ((h.old rfl).trans e5) (other_by h.grown hne5 h5) (by kernel_rfl) rfl hi64 (by rw [bcells_length, hb64]))
  · exact fix_value (i := 1) (d := 13) rfl (wanted_none rfl) rfl (by decide) (x_slice_row rfl ((h.old rfl).trans e6) (by kernel_rfl))
  · refine fix_call (i := 2) (d := 14) 26 Try.f26 #[.tmp 12, .const (.int .u8 92), .tmp 13] _ #[.agg (bcells blk).toArray, .int .u8 92, .slice (some ⟨g6, 0, none⟩) 32 32] rfl (wanted_none rfl) rfl (by decide) rfl (by simp [(h.get 0 12 (by decide) (hneed 0 (by kernel_rfl))), (h.get 1 13 (by decide) (hneed 1 (by kernel_rfl))), mtagVal, Act.eval_const_]) Try.func26 (by kernel_rfl) (by kernel_rfl) ?_
    exact hdig w (src_row (other_by h.grown hne6 h6) hd32.symm)
end Go.Proofs.Ytofjfpnkdcpngaa
