/-
  The drawn statement of the law ImageTrusts, whatever the order.
-/
import Derived.Test.YtjhopgmionpkoaaImQ
import Derived.Test.YtjhopgmionpkoaaImN
import Derived.Test.YtjhopgmionpkoaaRgn
namespace Go.Proofs.Ytjhopgmionpkoaa
set_option maxRecDepth 20000
open Go.RowKit Mem

set_option linter.unusedVariables false
theorem x_lss_true {P : Program} {a : Act} {w : World} {o : Oper} {x y : Operand} {t t2 : TypeId} {k : IntKind} {n m : Int} (ho : o.op = .binOp .lss t x y t2) (hx : a.eval x = .int k n) (hy : a.eval y = .int k m) (h : n < m) : (execOp a.eval o).run P w = .ok (.value (.bool true)) w := by
  unfold execOp
  simp only [ho, hx, hy]
  simp [eqGuard, go_sem, h]
theorem src_bytes {w : World} {A : Option Addr} {n c : Nat} {T : List UInt8} (h : Src w A n c (bcells T) 1) (hn : n = T.length) : BytesAt w A T := by
  subst hn
  exact BSrc.at_ h
noncomputable def itruOps : Array Oper := findOps 14 ((Try.f6).body.getD (.exit 0))
def itruSlots : List (Nat × Nat) := [(0, 69), (1, 70), (2, 71), (3, 72), (4, 73), (5, 74), (6, 75), (7, 76), (8, 77), (9, 78), (10, 79), (11, 80), (12, 81), (13, 82), (14, 83), (15, 84), (16, 85), (17, 86), (18, 87), (19, 88), (20, 89), (21, 90), (22, 91), (23, 92), (24, 93), (25, 94), (26, 95), (27, 96), (28, 97), (29, 98), (30, 99), (31, 100), (32, 101), (33, 102), (34, 103), (35, 104), (36, 105), (37, 106), (38, 107), (39, 4)]
def itruVal (m : Im) (A B : Option Addr) (c cB g5 g8 g9 g12 n nb : Nat) (T : List UInt8) : Nat → Value
  | 0 => .slice (some ⟨g8, 0, none⟩) 32 32
  | 1 => .string ⟨T.toArray⟩
  | 2 => .slice A nb c
  | 3 => .int .i64 (n : Int)
  | 4 => .slice B 32 cB
  | 5 => .string ⟨T.toArray⟩
  | 6 => .bool true
  | 7 => .bool true
  | 8 => .int .i64 0
  | 9 => .bool true
  | 10 => .bool true
  | 11 => .bool true
  | 12 => .int .i64 0
  | 13 => .bool true
  | 14 => .bool true
  | 15 => .bool true
  | 16 => .pointer (some ⟨g9, 1, none⟩)
  | 17 => .int .i64 m.sf
  | 18 => .pointer (some ⟨g5, 11, none⟩)
  | 19 => .int .i64 m.sf
  | 20 => .bool true
  | 21 => .bool true
  | 22 => .bool true
  | 23 => .pointer (some ⟨g12, 1, none⟩)
  | 24 => .int .i64 m.mf
  | 25 => .pointer (some ⟨g5, 12, none⟩)
  | 26 => .int .i64 m.mf
  | 27 => .bool true
  | 28 => .bool true
  | 29 => .bool true
  | 30 => .pointer (some ⟨g5, 1, none⟩)
  | 31 => .int .u32 m.frm
  | 32 => .pointer (some ⟨g5, 0, none⟩)
  | 33 => .int .u32 m.ver
  | 34 => .bool true
  | 35 => .bool true
  | 36 => .bool true
  | 37 => .bool true
  | 38 => .bool true
  | _ => .bool true
theorem itruRegion {Q : Exit → Act → World → Prop} (a0 : Act) (W0 : World) (hs : 107 < a0.tmps.size) (m : Im) (A1 A2 A3 A B : Option Addr) (c1 c2 c3 c cB g5 g8 g9 g12 n nb : Nat) (T : List UInt8) (dp1 dp2 : Int) (hT : T.length = 32) (h5 : W0.heap[g5]? = some (.cells #[.int .u32 m.ver, .int .u32 m.frm, .int .i64 m.el, .int .i64 m.fr.sl, .int .i64 m.fr.ol, .int .i64 m.fr.nw, .int .i64 m.fr.is, .int .i64 m.fr.os, .slice A1 m.first.length c1, .slice A2 m.step.length c2, .slice A3 m.move.length c3, .int .i64 m.sf, .int .i64 m.mf] 28 (0, 0))) (h8 : W0.heap[g8]? = some (.cells (bcells T).toArray 44 (0, 0))) (h9 : W0.heap[g9]? = some (.cells #[.int .i64 dp1, .int .i64 m.sf] 47 (0, 0))) (h12 : W0.heap[g12]? = some (.cells #[.int .i64 dp2, .int .i64 m.mf] 47 (0, 0))) (hs2 : ∀ wx, (Instr.slice 31 (.slice A nb c) (some (.int .i64 (n : Int))) none none).run Try.prog wx = .ok (.slice B 32 cB) wx) (hb : BytesAt W0 B T) (hlt : m.frm < m.ver)
    (e0 : a0.eval (.tmp 0) = .slice A nb c)
    (e5 : a0.eval (.tmp 5) = .pointer (some ⟨g5, 0, none⟩))
    (e7 : a0.eval (.tmp 7) = .int .i64 (n : Int))
    (e8 : a0.eval (.tmp 8) = .pointer (some ⟨g8, 0, none⟩))
    (e9 : a0.eval (.tmp 9) = .pointer (some ⟨g9, 0, none⟩))
    (e10 : a0.eval (.tmp 10) = .int .i64 0)
    (e12 : a0.eval (.tmp 12) = .pointer (some ⟨g12, 0, none⟩))
    (e13 : a0.eval (.tmp 13) = .int .i64 0)
    (hQ : ∀ w, Below W0.heap.size W0 w → Q .normal (itruSlots.foldl (fun x p => x.put (some p.2) ((itruVal m A B c cB g5 g8 g9 g12 n nb T) p.1)) a0) w) :
    wpAny Try.prog .any itruOps Q 40 (Array.replicate 40 false) a0 W0.drew := by
  have ok : slotsFix itruSlots a0.tmps.size = true := by
    have : ∀ z, 107 < z → slotsFix itruSlots z = true := by
      intro z hz
      simp [slotsFix, itruSlots]
      omega
    exact this _ hs
  have l5 : g5 < W0.heap.size := (Array.getElem?_eq_some_iff.1 h5).1
  have l8 : g8 < W0.heap.size := (Array.getElem?_eq_some_iff.1 h8).1
  have l9 : g9 < W0.heap.size := (Array.getElem?_eq_some_iff.1 h9).1
  have l12 : g12 < W0.heap.size := (Array.getElem?_eq_some_iff.1 h12).1
  have hi32 : (Try.prog.info? 44).map (·.size) = some 32 := by kernel_rfl
  have h9' : (Try.prog.cellsOf 47) = 2 := by kernel_rfl
  refine region_fixed (by kernel_rfl) W0 a0 itruSlots (itruVal m A B c cB g5 g8 g9 g12 n nb T) ok (by kernel_rfl) 40 (by kernel_rfl) ?_ hQ
  intro i L a w h hi hneed
  rcases (show i = 0 ∨ i = 1 ∨ i = 2 ∨ i = 3 ∨ i = 4 ∨ i = 5 ∨ i = 6 ∨ i = 7 ∨ i = 8 ∨ i = 9 ∨ i = 10 ∨ i = 11 ∨ i = 12 ∨ i = 13 ∨ i = 14 ∨ i = 15 ∨ i = 16 ∨ i = 17 ∨ i = 18 ∨ i = 19 ∨ i = 20 ∨ i = 21 ∨ i = 22 ∨ i = 23 ∨ i = 24 ∨ i = 25 ∨ i = 26 ∨ i = 27 ∨ i = 28 ∨ i = 29 ∨ i = 30 ∨ i = 31 ∨ i = 32 ∨ i = 33 ∨ i = 34 ∨ i = 35 ∨ i = 36 ∨ i = 37 ∨ i = 38 ∨ i = 39 by omega) with rfl | rfl | rfl | rfl | rfl | rfl | rfl | rfl | rfl | rfl | rfl | rfl | rfl | rfl | rfl | rfl | rfl | rfl | rfl | rfl | rfl | rfl | rfl | rfl | rfl | rfl | rfl | rfl | rfl | rfl | rfl | rfl | rfl | rfl | rfl | rfl | rfl | rfl | rfl | rfl
  · exact fix_value (i := 0) (d := 69) rfl (wanted_none rfl) rfl (by decide) (x_slice_row rfl ((h.old rfl).trans e8) (by kernel_rfl))
  · exact fix_value (i := 1) (d := 70) rfl (wanted_none rfl) rfl (by decide) (x_conv rfl (h.get 0 69 (by decide) (hneed 0 (by kernel_rfl))) (by have hh := conv_bytes w (some ⟨g8, 0, none⟩) 32 T (src_bytes (src_row ((h.below.block _ l8).trans h8) hT.symm) hT.symm); rw [hT] at hh; exact hh))
  · exact fix_value (i := 2) (d := 71) rfl (wanted_none rfl) rfl (by decide) (x_move rfl ((h.old rfl).trans e0))
  · exact fix_value (i := 3) (d := 72) rfl (wanted_none rfl) rfl (by decide) (x_move rfl ((h.old rfl).trans e7))
  · exact fix_value (i := 4) (d := 73) rfl (wanted_none rfl) rfl (by decide) (x_slice rfl (by kernel_rfl) (h.get 2 71 (by decide) (hneed 2 (by kernel_rfl))) (congrArg some (h.get 3 72 (by decide) (hneed 3 (by kernel_rfl)))) rfl (hs2 w))
  · exact fix_value (i := 5) (d := 74) rfl (wanted_none rfl) rfl (by decide) (x_conv rfl (h.get 4 73 (by decide) (hneed 4 (by kernel_rfl))) (by have hh := conv_bytes w B cB T (hb.below h.below (Nat.le_refl _)); rw [hT] at hh; exact hh))
  · exact fix_value (i := 6) (d := 75) rfl (wanted_none rfl) rfl (by decide) (x_eql_true_str rfl (h.get 1 70 (by decide) (hneed 1 (by kernel_rfl))) (h.get 5 74 (by decide) (hneed 5 (by kernel_rfl))))
  · exact fix_value (i := 7) (d := 76) rfl (wanted_none rfl) rfl (by decide) (x_move rfl (h.get 6 75 (by decide) (hneed 6 (by kernel_rfl))))
  · exact fix_value (i := 8) (d := 77) rfl (wanted_some rfl rfl rfl (h.get 7 76 (by decide) (hneed 7 (by kernel_rfl)))) rfl (by decide) (x_move rfl ((h.old rfl).trans e10))
  · exact fix_value (i := 9) (d := 78) rfl (wanted_some rfl rfl rfl (h.get 7 76 (by decide) (hneed 7 (by kernel_rfl)))) rfl (by decide) (x_eql_true_int rfl (h.get 8 77 (by decide) (hneed 8 (by kernel_rfl))) rfl)
  · exact fix_value (i := 10) (d := 79) rfl (wanted_none rfl) rfl (by decide) (x_pick_t rfl (h.get 7 76 (by decide) (hneed 7 (by kernel_rfl))) (h.get 9 78 (by decide) (hneed 9 (by kernel_rfl))))
  · exact fix_value (i := 11) (d := 80) rfl (wanted_none rfl) rfl (by decide) (x_move rfl (h.get 10 79 (by decide) (hneed 10 (by kernel_rfl))))
  · exact fix_value (i := 12) (d := 81) rfl (wanted_some rfl rfl rfl (h.get 11 80 (by decide) (hneed 11 (by kernel_rfl)))) rfl (by decide) (x_move rfl ((h.old rfl).trans e13))
  · exact fix_value (i := 13) (d := 82) rfl (wanted_some rfl rfl rfl (h.get 11 80 (by decide) (hneed 11 (by kernel_rfl)))) rfl (by decide) (x_eql_true_int rfl (h.get 12 81 (by decide) (hneed 12 (by kernel_rfl))) rfl)
  · exact fix_value (i := 14) (d := 83) rfl (wanted_none rfl) rfl (by decide) (x_pick_t rfl (h.get 11 80 (by decide) (hneed 11 (by kernel_rfl))) (h.get 13 82 (by decide) (hneed 13 (by kernel_rfl))))
  · exact fix_value (i := 15) (d := 84) rfl (wanted_none rfl) rfl (by decide) (x_move rfl (h.get 14 83 (by decide) (hneed 14 (by kernel_rfl))))
  · exact fix_value (i := 16) (d := 85) rfl (wanted_some rfl rfl rfl (h.get 15 84 (by decide) (hneed 15 (by kernel_rfl)))) rfl (by decide) (x_field rfl ((h.old rfl).trans e9) (by simp [go_sem]))
  · exact fix_value (i := 17) (d := 86) rfl (wanted_some rfl rfl rfl (h.get 15 84 (by decide) (hneed 15 (by kernel_rfl)))) rfl (by decide) (x_load rfl (h.get 16 85 (by decide) (hneed 16 (by kernel_rfl))) (by have hh := (h.below.block _ l9).trans h9; have hh0 : w.cell? ⟨g9, 1, none⟩ = some _ := cell_of_row w g9 1 _ _ (0, 0) hh; simp [go_sem, hh0]; rfl))
  · exact fix_value (i := 18) (d := 87) rfl (wanted_some rfl rfl rfl (h.get 15 84 (by decide) (hneed 15 (by kernel_rfl)))) rfl (by decide) (x_field rfl ((h.old rfl).trans e5) (by simp [go_sem]))
  · exact fix_value (i := 19) (d := 88) rfl (wanted_some rfl rfl rfl (h.get 15 84 (by decide) (hneed 15 (by kernel_rfl)))) rfl (by decide) (x_load rfl (h.get 18 87 (by decide) (hneed 18 (by kernel_rfl))) (by have hh := (h.below.block _ l5).trans h5; have hh0 : w.cell? ⟨g5, 11, none⟩ = some _ := cell_of_row w g5 11 _ _ (0, 0) hh; simp [go_sem, hh0]; rfl))
  · exact fix_value (i := 20) (d := 89) rfl (wanted_some rfl rfl rfl (h.get 15 84 (by decide) (hneed 15 (by kernel_rfl)))) rfl (by decide) (x_eql_true_int rfl (h.get 17 86 (by decide) (hneed 17 (by kernel_rfl))) (h.get 19 88 (by decide) (hneed 19 (by kernel_rfl))))
  · exact fix_value (i := 21) (d := 90) rfl (wanted_none rfl) rfl (by decide) (x_pick_t rfl (h.get 15 84 (by decide) (hneed 15 (by kernel_rfl))) (h.get 20 89 (by decide) (hneed 20 (by kernel_rfl))))
  · exact fix_value (i := 22) (d := 91) rfl (wanted_none rfl) rfl (by decide) (x_move rfl (h.get 21 90 (by decide) (hneed 21 (by kernel_rfl))))
  · exact fix_value (i := 23) (d := 92) rfl (wanted_some rfl rfl rfl (h.get 22 91 (by decide) (hneed 22 (by kernel_rfl)))) rfl (by decide) (x_field rfl ((h.old rfl).trans e12) (by simp [go_sem]))
  · exact fix_value (i := 24) (d := 93) rfl (wanted_some rfl rfl rfl (h.get 22 91 (by decide) (hneed 22 (by kernel_rfl)))) rfl (by decide) (x_load rfl (h.get 23 92 (by decide) (hneed 23 (by kernel_rfl))) (by have hh := (h.below.block _ l12).trans h12; have hh0 : w.cell? ⟨g12, 1, none⟩ = some _ := cell_of_row w g12 1 _ _ (0, 0) hh; simp [go_sem, hh0]; rfl))
  · exact fix_value (i := 25) (d := 94) rfl (wanted_some rfl rfl rfl (h.get 22 91 (by decide) (hneed 22 (by kernel_rfl)))) rfl (by decide) (x_field rfl ((h.old rfl).trans e5) (by simp [go_sem]))
  · exact fix_value (i := 26) (d := 95) rfl (wanted_some rfl rfl rfl (h.get 22 91 (by decide) (hneed 22 (by kernel_rfl)))) rfl (by decide) (x_load rfl (h.get 25 94 (by decide) (hneed 25 (by kernel_rfl))) (by have hh := (h.below.block _ l5).trans h5; have hh0 : w.cell? ⟨g5, 12, none⟩ = some _ := cell_of_row w g5 12 _ _ (0, 0) hh; simp [go_sem, hh0]; rfl))
  · exact fix_value (i := 27) (d := 96) rfl (wanted_some rfl rfl rfl (h.get 22 91 (by decide) (hneed 22 (by kernel_rfl)))) rfl (by decide) (x_eql_true_int rfl (h.get 24 93 (by decide) (hneed 24 (by kernel_rfl))) (h.get 26 95 (by decide) (hneed 26 (by kernel_rfl))))
  · exact fix_value (i := 28) (d := 97) rfl (wanted_none rfl) rfl (by decide) (x_pick_t rfl (h.get 22 91 (by decide) (hneed 22 (by kernel_rfl))) (h.get 27 96 (by decide) (hneed 27 (by kernel_rfl))))
  · exact fix_value (i := 29) (d := 98) rfl (wanted_none rfl) rfl (by decide) (x_move rfl (h.get 28 97 (by decide) (hneed 28 (by kernel_rfl))))
  · exact fix_value (i := 30) (d := 99) rfl (wanted_some rfl rfl rfl (h.get 29 98 (by decide) (hneed 29 (by kernel_rfl)))) rfl (by decide) (x_field rfl ((h.old rfl).trans e5) (by simp [go_sem]))
  · exact fix_value (i := 31) (d := 100) rfl (wanted_some rfl rfl rfl (h.get 29 98 (by decide) (hneed 29 (by kernel_rfl)))) rfl (by decide) (x_load rfl (h.get 30 99 (by decide) (hneed 30 (by kernel_rfl))) (by have hh := (h.below.block _ l5).trans h5; have hh0 : w.cell? ⟨g5, 1, none⟩ = some _ := cell_of_row w g5 1 _ _ (0, 0) hh; simp [go_sem, hh0]; rfl))
  · exact fix_value (i := 32) (d := 101) rfl (wanted_some rfl rfl rfl (h.get 29 98 (by decide) (hneed 29 (by kernel_rfl)))) rfl (by decide) (x_field rfl ((h.old rfl).trans e5) (by simp [go_sem]))
  · exact fix_value (i := 33) (d := 102) rfl (wanted_some rfl rfl rfl (h.get 29 98 (by decide) (hneed 29 (by kernel_rfl)))) rfl (by decide) (x_load rfl (h.get 32 101 (by decide) (hneed 32 (by kernel_rfl))) (by have hh := (h.below.block _ l5).trans h5; have hh0 : w.cell? ⟨g5, 0, none⟩ = some _ := cell_of_row w g5 0 _ _ (0, 0) hh; simp [go_sem, hh0]; rfl))
  · exact fix_value (i := 34) (d := 103) rfl (wanted_some rfl rfl rfl (h.get 29 98 (by decide) (hneed 29 (by kernel_rfl)))) rfl (by decide) (x_lss_true rfl (h.get 31 100 (by decide) (hneed 31 (by kernel_rfl))) (h.get 33 102 (by decide) (hneed 33 (by kernel_rfl))) hlt)
  · exact fix_value (i := 35) (d := 104) rfl (wanted_none rfl) rfl (by decide) (x_pick_t rfl (h.get 29 98 (by decide) (hneed 29 (by kernel_rfl))) (h.get 34 103 (by decide) (hneed 34 (by kernel_rfl))))
  · exact fix_value (i := 36) (d := 105) rfl (wanted_none rfl) rfl (by decide) (x_move rfl (h.get 35 104 (by decide) (hneed 35 (by kernel_rfl))))
  · refine fix_call (i := 37) (d := 106) 10 Try.f10 #[] _ #[] rfl (wanted_some rfl rfl rfl (h.get 36 105 (by decide) (hneed 36 (by kernel_rfl)))) rfl (by decide) rfl (by simp) Try.func10 (by kernel_rfl) (by kernel_rfl) ?_
    exact imknown w
  · exact fix_value (i := 38) (d := 107) rfl (wanted_none rfl) rfl (by decide) (x_pick_t rfl (h.get 36 105 (by decide) (hneed 36 (by kernel_rfl))) (h.get 37 106 (by decide) (hneed 37 (by kernel_rfl))))
  · exact fix_value (i := 39) (d := 4) rfl (wanted_none rfl) rfl (by decide) (x_assign rfl (h.get 38 107 (by decide) (hneed 38 (by kernel_rfl))))
end Go.Proofs.Ytjhopgmionpkoaa
