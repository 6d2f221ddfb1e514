/-
  A drawn statement of ImageChecks, whatever the order.
-/
import Derived.Test.YtjhopgmionpkoaaImN
import Derived.Test.YtjhopgmionpkoaaJu1
import Derived.Test.YtjhopgmionpkoaaRgn
namespace Go.Proofs.Ytjhopgmionpkoaa
set_option maxRecDepth 20000
open Go.RowKit Mem

set_option linter.unusedVariables false
noncomputable def ichkOps : Array Oper := findOps 5 ((Try.f3).body.getD (.exit 0))
def ichkSlots : List (Nat × Nat) := [(0, 21), (1, 22), (2, 23), (3, 24), (4, 25), (5, 26), (6, 27), (7, 28), (8, 29), (9, 30), (10, 31), (11, 32), (12, 33), (13, 34), (14, 35), (15, 36), (16, 37), (17, 38), (18, 39), (19, 40), (20, 2)]
def ichkVal (m : Im) (A1 A2 A3 : Option Addr) (c1 c2 c3 : Nat) (bf : Ia.Bs) (er : Int) (Ax Ay : Option Addr) (cx cy : Nat) : Nat → Value
  | 0 => imAgg m A1 A2 A3 c1 c2 c3
  | 1 => .int .i64 (chk m)
  | 2 => imAgg m A1 A2 A3 c1 c2 c3
  | 3 => .int .i64 (chk m)
  | 4 => .bool true
  | 5 => .bool true
  | 6 => .slice Ax bf.length cx
  | 7 => .string ⟨bf.toArray⟩
  | 8 => .slice Ay bf.length cy
  | 9 => .string ⟨bf.toArray⟩
  | 10 => .bool true
  | 11 => .bool true
  | 12 => .bool true
  | 13 => .int .i64 er
  | 14 => .int .i64 er
  | 15 => .bool true
  | 16 => .bool true
  | 17 => .bool true
  | 18 => .bool true
  | 19 => .bool true
  | _ => .bool true
theorem ichkRegion {Q : Exit → Act → World → Prop} (a0 : Act) (W0 : World) (hs : 40 < a0.tmps.size) (m : Im) (A1 A2 A3 : Option Addr) (c1 c2 c3 g : Nat) (bf : Ia.Bs) (er : Int) (Ax Ay : Option Addr) (cx cy : Nat) (hA : ImAt W0 m A1 A2 A3 c1 c2 c3) (hl : ImLen m) (ho : ImOk m) (hx : BytesAt W0 Ax bf) (hy : BytesAt W0 Ay bf) (hg : W0.heap[g]? = some (.cells #[.int .u32 m.ver, .int .u32 m.frm, .int .i64 m.el, .int .i64 m.fr.sl, .int .i64 m.fr.ol, .int .i64 m.fr.nw, .int .i64 m.fr.is, .int .i64 m.fr.os, .slice A1 m.first.length c1, .slice A2 m.step.length c2, .slice A3 m.move.length c3, .int .i64 m.sf, .int .i64 m.mf] 28 (0, 0)))
    (e1 : a0.eval (.tmp 1) = .pointer (some ⟨g, 0, none⟩))
    (e3 : a0.eval (.tmp 3) = .slice Ax bf.length cx)
    (e4 : a0.eval (.tmp 4) = .int .i64 er)
    (e5 : a0.eval (.tmp 5) = .slice Ay bf.length cy)
    (e6 : a0.eval (.tmp 6) = .int .i64 er)
    (hQ : ∀ w, Below W0.heap.size W0 w → Q .normal (ichkSlots.foldl (fun x p => x.put (some p.2) ((ichkVal m A1 A2 A3 c1 c2 c3 bf er Ax Ay cx cy) p.1)) a0) w) :
    wpAny Try.prog .any ichkOps Q 21 (Array.replicate 21 false) a0 W0.drew := by
  have ok : slotsFix ichkSlots a0.tmps.size = true := by
    have : ∀ z, 40 < z → slotsFix ichkSlots z = true := by
      intro z hz
      simp [slotsFix, ichkSlots]
      omega
    exact this _ hs
  have lg : g < W0.heap.size := (Array.getElem?_eq_some_iff.1 hg).1
  refine region_fixed (by kernel_rfl) W0 a0 ichkSlots (ichkVal m A1 A2 A3 c1 c2 c3 bf er Ax Ay cx cy) ok (by kernel_rfl) 21 (by kernel_rfl) ?_ hQ
  intro i L a w h hi hneed
  rcases (show i = 0 ∨ i = 1 ∨ i = 2 ∨ i = 3 ∨ i = 4 ∨ i = 5 ∨ i = 6 ∨ i = 7 ∨ i = 8 ∨ i = 9 ∨ i = 10 ∨ i = 11 ∨ i = 12 ∨ i = 13 ∨ i = 14 ∨ i = 15 ∨ i = 16 ∨ i = 17 ∨ i = 18 ∨ i = 19 ∨ i = 20 by omega) with rfl | rfl | rfl | rfl | rfl | rfl | rfl | rfl | rfl | rfl | rfl | rfl | rfl | rfl | rfl | rfl | rfl | rfl | rfl | rfl | rfl
  · exact fix_value (i := 0) (d := 21) rfl (wanted_none rfl) rfl (by decide) (x_load_row (cs := imCells m A1 A2 A3 c1 c2 c3) (n := 13) rfl ((h.old rfl).trans e1) ((h.below.block _ lg).trans hg) Try.underlying28 rfl (by kernel_rfl) rfl)
  · refine fix_call (i := 1) (d := 22) 13 Try.f13 #[.tmp 21] _ #[imAgg m A1 A2 A3 c1 c2 c3] rfl (wanted_none rfl) rfl (by decide) rfl (by simp [(h.get 0 21 (by decide) (hneed 0 (by kernel_rfl))), ichkVal]) Try.func13 (by kernel_rfl) (by kernel_rfl) ?_
    exact imcheck m A1 A2 A3 c1 c2 c3 w (hA.below h.below (Nat.le_refl _)) hl ho
  · exact fix_value (i := 2) (d := 23) rfl (wanted_none rfl) rfl (by decide) (x_load_row (cs := imCells m A1 A2 A3 c1 c2 c3) (n := 13) rfl ((h.old rfl).trans e1) ((h.below.block _ lg).trans hg) Try.underlying28 rfl (by kernel_rfl) rfl)
  · refine fix_call (i := 3) (d := 24) 14 Try.f14 #[.tmp 23] _ #[imAgg m A1 A2 A3 c1 c2 c3] rfl (wanted_none rfl) rfl (by decide) rfl (by simp [(h.get 2 23 (by decide) (hneed 2 (by kernel_rfl))), ichkVal]) Try.func14 (by kernel_rfl) (by kernel_rfl) ?_
    exact refimcheck m A1 A2 A3 c1 c2 c3 w (hA.below h.below (Nat.le_refl _)) hl ho
  · exact fix_value (i := 4) (d := 25) rfl (wanted_none rfl) rfl (by decide) (x_eql_true_int rfl (h.get 1 22 (by decide) (hneed 1 (by kernel_rfl))) (h.get 3 24 (by decide) (hneed 3 (by kernel_rfl))))
  · exact fix_value (i := 5) (d := 26) rfl (wanted_none rfl) rfl (by decide) (x_move rfl (h.get 4 25 (by decide) (hneed 4 (by kernel_rfl))))
  · exact fix_value (i := 6) (d := 27) rfl (wanted_some rfl rfl rfl (h.get 5 26 (by decide) (hneed 5 (by kernel_rfl)))) rfl (by decide) (x_move rfl ((h.old rfl).trans e3))
  · exact fix_value (i := 7) (d := 28) rfl (wanted_some rfl rfl rfl (h.get 5 26 (by decide) (hneed 5 (by kernel_rfl)))) rfl (by decide) (x_conv rfl (h.get 6 27 (by decide) (hneed 6 (by kernel_rfl))) (conv_bytes w Ax cx bf (hx.below h.below (Nat.le_refl _))))
  · exact fix_value (i := 8) (d := 29) rfl (wanted_some rfl rfl rfl (h.get 5 26 (by decide) (hneed 5 (by kernel_rfl)))) rfl (by decide) (x_move rfl ((h.old rfl).trans e5))
  · exact fix_value (i := 9) (d := 30) rfl (wanted_some rfl rfl rfl (h.get 5 26 (by decide) (hneed 5 (by kernel_rfl)))) rfl (by decide) (x_conv rfl (h.get 8 29 (by decide) (hneed 8 (by kernel_rfl))) (conv_bytes w Ay cy bf (hy.below h.below (Nat.le_refl _))))
  · exact fix_value (i := 10) (d := 31) rfl (wanted_some rfl rfl rfl (h.get 5 26 (by decide) (hneed 5 (by kernel_rfl)))) rfl (by decide) (x_eql_true_str rfl (h.get 7 28 (by decide) (hneed 7 (by kernel_rfl))) (h.get 9 30 (by decide) (hneed 9 (by kernel_rfl))))
  · exact fix_value (i := 11) (d := 32) rfl (wanted_none rfl) rfl (by decide) (x_pick_t rfl (h.get 5 26 (by decide) (hneed 5 (by kernel_rfl))) (h.get 10 31 (by decide) (hneed 10 (by kernel_rfl))))
  · exact fix_value (i := 12) (d := 33) rfl (wanted_none rfl) rfl (by decide) (x_move rfl (h.get 11 32 (by decide) (hneed 11 (by kernel_rfl))))
  · exact fix_value (i := 13) (d := 34) rfl (wanted_some rfl rfl rfl (h.get 12 33 (by decide) (hneed 12 (by kernel_rfl)))) rfl (by decide) (x_move rfl ((h.old rfl).trans e4))
  · exact fix_value (i := 14) (d := 35) rfl (wanted_some rfl rfl rfl (h.get 12 33 (by decide) (hneed 12 (by kernel_rfl)))) rfl (by decide) (x_move rfl ((h.old rfl).trans e6))
  · exact fix_value (i := 15) (d := 36) rfl (wanted_some rfl rfl rfl (h.get 12 33 (by decide) (hneed 12 (by kernel_rfl)))) rfl (by decide) (x_eql_true_int rfl (h.get 13 34 (by decide) (hneed 13 (by kernel_rfl))) (h.get 14 35 (by decide) (hneed 14 (by kernel_rfl))))
  · exact fix_value (i := 16) (d := 37) rfl (wanted_none rfl) rfl (by decide) (x_pick_t rfl (h.get 12 33 (by decide) (hneed 12 (by kernel_rfl))) (h.get 15 36 (by decide) (hneed 15 (by kernel_rfl))))
  · exact fix_value (i := 17) (d := 38) rfl (wanted_none rfl) rfl (by decide) (x_move rfl (h.get 16 37 (by decide) (hneed 16 (by kernel_rfl))))
  · refine fix_call (i := 18) (d := 39) 10 Try.f10 #[] _ #[] rfl (wanted_some rfl rfl rfl (h.get 17 38 (by decide) (hneed 17 (by kernel_rfl)))) rfl (by decide) rfl (by simp) Try.func10 (by kernel_rfl) (by kernel_rfl) ?_
    exact imknown w
  · exact fix_value (i := 19) (d := 40) rfl (wanted_none rfl) rfl (by decide) (x_pick_t rfl (h.get 17 38 (by decide) (hneed 17 (by kernel_rfl))) (h.get 18 39 (by decide) (hneed 18 (by kernel_rfl))))
  · exact fix_value (i := 20) (d := 2) rfl (wanted_none rfl) rfl (by decide) (x_assign rfl (h.get 19 40 (by decide) (hneed 19 (by kernel_rfl))))
end Go.Proofs.Ytjhopgmionpkoaa
