/-
  The drawn statement of mac.Right, whatever the order.
-/
import Derived.Test.YtofjfpnkdcpngaaMacD
import Derived.Test.YtofjfpnkdcpngaaRegPut
import Derived.Test.YtofjfpnkdcpngaaRegFix
namespace Go.Proofs.Ytofjfpnkdcpngaa
open Go.RowKit Mem

set_option linter.unusedVariables false
noncomputable def mrightOps : Array Oper := findOps 5 ((Try.f17).body.getD (.exit 0))
def mrightSlots : List (Nat × Nat) := [(0, 14), (1, 15), (2, 16), (3, 17), (4, 18), (5, 6)]
def mrightVal (k b D T : List UInt8) (A A' : Option Addr) (c c' : Nat) : Nat → Value
  | 0 => .agg (bcells D).toArray
  | 1 => .slice A k.length c
  | 2 => .slice A' b.length c'
  | 3 => .agg (bcells T).toArray
  | 4 => .bool (D == T)
  | _ => .bool (D == T)
theorem mrightRegion {Q : Exit → Act → World → Prop} (a0 : Act) (W0 : World) (hs : 18 < a0.tmps.size) (k b D T : List UInt8) (A A' : Option Addr) (c c' g : Nat) (hD : D.length = 32) (hT : T.length = 32) (hr : W0.heap[g]? = some (.cells (bcells D).toArray 27 (0, 0))) (ht1 : ∀ W, Below W0.heap.size W0 W → Calls Try.prog 13 #[.slice A k.length c, .slice A' b.length c'] W fun e w' => e = .returned (.agg (bcells T).toArray) ∧ Below W.heap.size W w')
    (e0 : a0.eval (.tmp 0) = .slice A k.length c)
    (e1 : a0.eval (.tmp 1) = .slice A' b.length c')
    (e7 : a0.eval (.tmp 7) = .pointer (some ⟨g, 0, none⟩))
    (hQ : ∀ w, Below W0.heap.size W0 w → Q .normal (mrightSlots.foldl (fun x p => x.put (some p.2) ((mrightVal k b D T A A' c c') p.1)) a0) w) :
    wpAny Try.prog .any mrightOps Q 6 (Array.replicate 6 false) a0 W0.drew := by
  have ok : slotsFix mrightSlots a0.tmps.size = true := by
    have : ∀ z, 18 < z → slotsFix mrightSlots z = true := by
      intro z hz
      simp [slotsFix, mrightSlots]
      omega
    exact this _ hs
  have hi32 : (Try.prog.info? 27).map (·.size) = some 32 := by kernel_rfl
  have hgl : g < W0.heap.size := (Array.getElem?_eq_some_iff.1 hr).1
  have heq : ∀ w, (binOp .eql 27 (.agg (bcells D).toArray) (.agg (bcells T).toArray)).run Try.prog w = .ok (.bool (D == T)) w := fun w => eql32 D T hD hT w
  refine region_fixed (by kernel_rfl) W0 a0 mrightSlots (mrightVal k b D T A A' c c') ok (by kernel_rfl) 6 (by kernel_rfl) ?_ hQ
  intro i L a w h hi hneed
  rcases (show i = 0 ∨ i = 1 ∨ i = 2 ∨ i = 3 ∨ i = 4 ∨ i = 5 by omega) with rfl | rfl | rfl | rfl | rfl | rfl
  · exact fix_value (i := 0) (d := 14) rfl (wanted_none rfl) rfl (by decide) (x_load_row (d := .array 32 5) rfl ((h.old rfl).trans e7) ((h.below.block _ hgl).trans hr) (by kernel_rfl) rfl hi32 (by rw [bcells_length, hD]))
  · exact fix_value (i := 1) (d := 15) rfl (wanted_none rfl) rfl (by decide) (x_move rfl ((h.old rfl).trans e0))
  · exact fix_value (i := 2) (d := 16) rfl (wanted_none rfl) rfl (by decide) (x_move rfl ((h.old rfl).trans e1))
  · refine fix_call (i := 3) (d := 17) 13 Try.f13 #[.tmp 15, .tmp 16] _ #[.slice A k.length c, .slice A' b.length c'] rfl (wanted_none rfl) rfl (by decide) rfl (by simp [(h.get 1 15 (by decide) (hneed 1 (by kernel_rfl))), (h.get 2 16 (by decide) (hneed 2 (by kernel_rfl))), mrightVal]) Try.func13 (by kernel_rfl) (by kernel_rfl) ?_
    exact ht1 w h.below
  · exact fix_value (i := 4) (d := 18) rfl (wanted_none rfl) rfl (by decide) (x_eql_agg rfl (h.get 0 14 (by decide) (hneed 0 (by kernel_rfl))) (h.get 3 17 (by decide) (hneed 3 (by kernel_rfl))) (by kernel_rfl) (heq w))
  · exact fix_value (i := 5) (d := 6) rfl (wanted_none rfl) rfl (by decide) (x_assign rfl (h.get 4 18 (by decide) (hneed 4 (by kernel_rfl))))
end Go.Proofs.Ytofjfpnkdcpngaa
