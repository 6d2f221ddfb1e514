/-
  The drawn statement of the law MacKeys, whatever the order.
-/
import Derived.Test.YtofjfpnkdcpngaaMacK
import Derived.Test.YtofjfpnkdcpngaaRegPut
import Derived.Test.YtofjfpnkdcpngaaMacC
import Derived.Test.YtofjfpnkdcpngaaRegFix
namespace Go.Proofs.Ytofjfpnkdcpngaa
open Go.RowKit Mem

set_option linter.unusedVariables false
noncomputable def mkeysOps : Array Oper := findOps 5 ((Try.f5).body.getD (.exit 0))
def mkeysSlots : List (Nat × Nat) := [(0, 24), (1, 25), (2, 26), (3, 27), (4, 28), (5, 29), (6, 30), (7, 31), (8, 32), (9, 33), (10, 6)]
def mkeysVal (k b T : List UInt8) (A A' : Option Addr) (c c' g : Nat) : Nat → Value
  | 0 => .slice A k.length c
  | 1 => .slice A' b.length c'
  | 2 => .agg (bcells T).toArray
  | 3 => .slice (some ⟨g, 0, none⟩) 32 32
  | 4 => .slice A' b.length c'
  | 5 => .agg (bcells T).toArray
  | 6 => .bool true
  | 7 => .bool true
  | 8 => .bool true
  | 9 => .bool true
  | _ => .bool true
theorem mkeysRegion {Q : Exit → Act → World → Prop} (a0 : Act) (W0 : World) (hs : 33 < a0.tmps.size) (k b D T : List UInt8) (A A' : Option Addr) (c c' g : Nat) (hD : D.length = 32) (hT : T.length = 32) (hr : W0.heap[g]? = some (.cells (bcells D).toArray 27 (0, 0))) (ht1 : ∀ W, Below W0.heap.size W0 W → Calls Try.prog 13 #[.slice A k.length c, .slice A' b.length c'] W fun e w' => e = .returned (.agg (bcells T).toArray) ∧ Below W.heap.size W w') (ht2 : ∀ W, Below W0.heap.size W0 W → Src W (some ⟨g, 0, none⟩) 32 32 (bcells D) 1 → Calls Try.prog 13 #[.slice (some ⟨g, 0, none⟩) 32 32, .slice A' b.length c'] W fun e w' => e = .returned (.agg (bcells T).toArray) ∧ Below W.heap.size W w')
    (e0 : a0.eval (.tmp 0) = .slice A k.length c)
    (e2 : a0.eval (.tmp 2) = .slice A' b.length c')
    (e7 : a0.eval (.tmp 7) = .pointer (some ⟨g, 0, none⟩))
    (hQ : ∀ w, Below W0.heap.size W0 w → Q .normal (mkeysSlots.foldl (fun x p => x.put (some p.2) ((mkeysVal k b T A A' c c' g) p.1)) a0) w) :
    wpAny Try.prog .any mkeysOps Q 11 (Array.replicate 11 false) a0 W0.drew := by
  have ok : slotsFix mkeysSlots a0.tmps.size = true := by
    have : ∀ z, 33 < z → slotsFix mkeysSlots z = true := by
      intro z hz
      simp [slotsFix, mkeysSlots]
      omega
    exact this _ hs
  have hi32 : (Try.prog.info? 27).map (·.size) = some 32 := by kernel_rfl
  have hgl : g < W0.heap.size := (Array.getElem?_eq_some_iff.1 hr).1
  have heq : ∀ w, (binOp .eql 27 (.agg (bcells T).toArray) (.agg (bcells T).toArray)).run Try.prog w = .ok (.bool true) w := fun w => by rw [eql32 T T hT hT w]; simp
  refine region_fixed (by kernel_rfl) W0 a0 mkeysSlots (mkeysVal k b T A A' c c' g) ok (by kernel_rfl) 11 (by kernel_rfl) ?_ hQ
  intro i L a w h hi hneed
  rcases (show i = 0 ∨ i = 1 ∨ i = 2 ∨ i = 3 ∨ i = 4 ∨ i = 5 ∨ i = 6 ∨ i = 7 ∨ i = 8 ∨ i = 9 ∨ i = 10 by omega) with rfl | rfl | rfl | rfl | rfl | rfl | rfl | rfl | rfl | rfl | rfl
  · exact fix_value (i := 0) (d := 24) rfl (wanted_none rfl) rfl (by decide) (x_move rfl ((h.old rfl).trans e0))
  · exact fix_value (i := 1) (d := 25) rfl (wanted_none rfl) rfl (by decide) (x_move rfl ((h.old rfl).trans e2))
  · refine fix_call (i := 2) (d := 26) 13 Try.f13 #[.tmp 24, .tmp 25] _ #[.slice A k.length c, .slice A' b.length c'] rfl (wanted_none rfl) rfl (by decide) rfl (by simp [(h.get 0 24 (by decide) (hneed 0 (by kernel_rfl))), (h.get 1 25 (by decide) (hneed 1 (by kernel_rfl))), mkeysVal]) Try.func13 (by kernel_rfl) (by kernel_rfl) ?_
    exact ht1 w h.below
  · exact fix_value (i := 3) (d := 27) rfl (wanted_none rfl) rfl (by decide) (x_slice_row rfl ((h.old rfl).trans e7) (by kernel_rfl))
  · exact fix_value (i := 4) (d := 28) rfl (wanted_none rfl) rfl (by decide) (x_move rfl ((h.old rfl).trans e2))
  · refine fix_call (i := 5) (d := 29) 13 Try.f13 #[.tmp 27, .tmp 28] _ #[.slice (some ⟨g, 0, none⟩) 32 32, .slice A' b.length c'] rfl (wanted_none rfl) rfl (by decide) rfl (by simp [(h.get 3 27 (by decide) (hneed 3 (by kernel_rfl))), (h.get 4 28 (by decide) (hneed 4 (by kernel_rfl))), mkeysVal]) Try.func13 (by kernel_rfl) (by kernel_rfl) ?_
    exact ht2 w h.below (src_row ((h.below.block _ hgl).trans hr) hD.symm)
  · exact fix_value (i := 6) (d := 30) rfl (wanted_none rfl) rfl (by decide) (x_eql_agg rfl (h.get 2 26 (by decide) (hneed 2 (by kernel_rfl))) (h.get 5 29 (by decide) (hneed 5 (by kernel_rfl))) (by kernel_rfl) (heq w))
  · exact fix_value (i := 7) (d := 31) rfl (wanted_none rfl) rfl (by decide) (x_move rfl (h.get 6 30 (by decide) (hneed 6 (by kernel_rfl))))
  · refine fix_call (i := 8) (d := 32) 9 Try.f9 #[] _ #[] rfl (wanted_some rfl rfl rfl (h.get 7 31 (by decide) (hneed 7 (by kernel_rfl)))) rfl (by decide) rfl (by simp) Try.func9 (by kernel_rfl) (by kernel_rfl) ?_
    exact known_any w
  · exact fix_value (i := 9) (d := 33) rfl (wanted_none rfl) rfl (by decide) (x_pick_t rfl (h.get 7 31 (by decide) (hneed 7 (by kernel_rfl))) (h.get 8 32 (by decide) (hneed 8 (by kernel_rfl))))
  · exact fix_value (i := 10) (d := 6) rfl (wanted_none rfl) rfl (by decide) (x_assign rfl (h.get 9 33 (by decide) (hneed 9 (by kernel_rfl))))
end Go.Proofs.Ytofjfpnkdcpngaa
