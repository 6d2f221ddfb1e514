/-
  TreeTells' drawn statement of two expressions.
-/
import Derived.Test.YtilkilffkjhhbaaTrLiR
import Derived.Test.YtilkilffkjhhbaaRgn
namespace Go.Proofs.Ytilkilffkjhhbaa
set_option maxRecDepth 20000
set_option linter.unusedVariables false
open Go.RowKit Mem

set_option linter.unusedVariables false
noncomputable def tl7Ops : Array Oper := findOps 7 ((Try.f10).body.getD (.exit 0))
def tl7Slots : List (Nat × Nat) := [(0, 43), (1, 44), (2, 45), (3, 46), (4, 47), (5, 48), (6, 49), (7, 50), (8, 51), (9, 52), (10, 53), (11, 54), (12, 55), (13, 56), (14, 57), (15, 58), (16, 59), (17, 60), (18, 61), (19, 62), (20, 63), (21, 64), (22, 65), (23, 66), (24, 67), (25, 68), (26, 69), (27, 70), (28, 71), (29, 72), (30, 5)]
def tl7Val (gp gq b off n c b2 off2 n2 c2 j : Nat) (ex ey : Tr.Ex) (AX AY : Option Addr) (cX cY : Nat) (s : Bool) : Nat → Value
  | 0 => .bool true
  | 1 => .bool true
  | 2 => .pointer (some ⟨gp, 4, none⟩)
  | 3 => .slice (some ⟨b, off, none⟩) n c
  | 4 => .int .i64 (j : Int)
  | 5 => .pointer (some ⟨b, off + j * 10, none⟩)
  | 6 => .pointer (some ⟨b, off + j * 10 + 6, none⟩)
  | 7 => .agg #[.int .i64 ex.kind, .int .i32 ex.n, .string ⟨ex.name.toArray⟩, .slice AX ex.sub.length cX]
  | 8 => .pointer (some ⟨gq, 4, none⟩)
  | 9 => .slice (some ⟨b2, off2, none⟩) n2 c2
  | 10 => .int .i64 (j : Int)
  | 11 => .pointer (some ⟨b2, off2 + j * 10, none⟩)
  | 12 => .pointer (some ⟨b2, off2 + j * 10 + 6, none⟩)
  | 13 => .agg #[.int .i64 ey.kind, .int .i32 ey.n, .string ⟨ey.name.toArray⟩, .slice AY ey.sub.length cY]
  | 14 => .bool s
  | 15 => .pointer (some ⟨gp, 4, none⟩)
  | 16 => .slice (some ⟨b, off, none⟩) n c
  | 17 => .int .i64 (j : Int)
  | 18 => .pointer (some ⟨b, off + j * 10, none⟩)
  | 19 => .pointer (some ⟨b, off + j * 10 + 6, none⟩)
  | 20 => .agg #[.int .i64 ex.kind, .int .i32 ex.n, .string ⟨ex.name.toArray⟩, .slice AX ex.sub.length cX]
  | 21 => .pointer (some ⟨gq, 4, none⟩)
  | 22 => .slice (some ⟨b2, off2, none⟩) n2 c2
  | 23 => .int .i64 (j : Int)
  | 24 => .pointer (some ⟨b2, off2 + j * 10, none⟩)
  | 25 => .pointer (some ⟨b2, off2 + j * 10 + 6, none⟩)
  | 26 => .agg #[.int .i64 ey.kind, .int .i32 ey.n, .string ⟨ey.name.toArray⟩, .slice AY ey.sub.length cY]
  | 27 => .bool s
  | 28 => .bool true
  | 29 => .bool true
  | _ => .bool true
theorem tl7Region {Q : Exit → Act → World → Prop} (a0 : Act) (W0 : World) (hs : 72 < a0.tmps.size) (gp gq b off n c b2 off2 n2 c2 j : Nat) (ex ey : Tr.Ex) (AX AY : Option Addr) (cX cY : Nat) (s : Bool) (hj : j < n) (hj2 : j < n2) (p4 : W0.cell? ⟨gp, 4, none⟩ = some (.slice (some ⟨b, off, none⟩) n c)) (q4 : W0.cell? ⟨gq, 4, none⟩ = some (.slice (some ⟨b2, off2, none⟩) n2 c2)) (m6 : W0.cell? ⟨b, off + j * 10 + 6, none⟩ = some (.int .i64 ex.kind)) (m7 : W0.cell? ⟨b, off + j * 10 + 7, none⟩ = some (.int .i32 ex.n)) (m8 : W0.cell? ⟨b, off + j * 10 + 8, none⟩ = some (.string ⟨ex.name.toArray⟩)) (m9 : W0.cell? ⟨b, off + j * 10 + 9, none⟩ = some (.slice AX ex.sub.length cX)) (r6 : W0.cell? ⟨b2, off2 + j * 10 + 6, none⟩ = some (.int .i64 ey.kind)) (r7 : W0.cell? ⟨b2, off2 + j * 10 + 7, none⟩ = some (.int .i32 ey.n)) (r8 : W0.cell? ⟨b2, off2 + j * 10 + 8, none⟩ = some (.string ⟨ey.name.toArray⟩)) (r9 : W0.cell? ⟨b2, off2 + j * 10 + 9, none⟩ = some (.slice AY ey.sub.length cY)) (hts : ∀ W, Below W0.heap.size W0 W → Calls Try.prog 30 #[.agg #[.int .i64 ex.kind, .int .i32 ex.n, .string ⟨ex.name.toArray⟩, .slice AX ex.sub.length cX], .agg #[.int .i64 ey.kind, .int .i32 ey.n, .string ⟨ey.name.toArray⟩, .slice AY ey.sub.length cY]] W fun e w' => e = .returned (.bool s) ∧ Below W.heap.size W w') (hrs : ∀ W, Below W0.heap.size W0 W → Calls Try.prog 28 #[.agg #[.int .i64 ex.kind, .int .i32 ex.n, .string ⟨ex.name.toArray⟩, .slice AX ex.sub.length cX], .agg #[.int .i64 ey.kind, .int .i32 ey.n, .string ⟨ey.name.toArray⟩, .slice AY ey.sub.length cY]] W fun e w' => e = .returned (.bool s) ∧ Below W.heap.size W w')
    (e2 : a0.eval (.tmp 2) = .pointer (some ⟨gp, 0, none⟩))
    (e3 : a0.eval (.tmp 3) = .pointer (some ⟨gq, 0, none⟩))
    (e5 : a0.eval (.tmp 5) = .bool true)
    (e6 : a0.eval (.tmp 6) = .int .i64 (j : Int))
    (hQ : ∀ w, Below W0.heap.size W0 w → Q .normal (tl7Slots.foldl (fun x p => x.put (some p.2) ((tl7Val gp gq b off n c b2 off2 n2 c2 j ex ey AX AY cX cY s) p.1)) a0) w) :
    wpAny Try.prog .any tl7Ops Q 31 (Array.replicate 31 false) a0 W0.drew := by
  have ok : slotsFix tl7Slots a0.tmps.size = true := by
    have : ∀ z, 72 < z → slotsFix tl7Slots z = true := by
      intro z hz
      simp [slotsFix, tl7Slots]
      omega
    exact this _ hs
  have lp : gp < W0.heap.size := World.block_lt_of_cell? _ _ p4
  have lq : gq < W0.heap.size := World.block_lt_of_cell? _ _ q4
  have lb : b < W0.heap.size := World.block_lt_of_cell? _ _ m6
  have lb2 : b2 < W0.heap.size := World.block_lt_of_cell? _ _ r6
  refine region_acc (by kernel_rfl) W0 a0 tl7Slots (tl7Val gp gq b off n c b2 off2 n2 c2 j ex ey AX AY cX cY s) ok (by kernel_rfl) 31 (by kernel_rfl) 30 [29, 1, 0] 5 (by kernel_rfl) (by decide) ?_ hQ
  intro i L a w h hacc hf hi hneed
  rcases (show i = 0 ∨ i = 1 ∨ i = 2 ∨ i = 3 ∨ i = 4 ∨ i = 5 ∨ i = 6 ∨ i = 7 ∨ i = 8 ∨ i = 9 ∨ i = 10 ∨ i = 11 ∨ i = 12 ∨ i = 13 ∨ i = 14 ∨ i = 15 ∨ i = 16 ∨ i = 17 ∨ i = 18 ∨ i = 19 ∨ i = 20 ∨ i = 21 ∨ i = 22 ∨ i = 23 ∨ i = 24 ∨ i = 25 ∨ i = 26 ∨ i = 27 ∨ i = 28 ∨ i = 29 ∨ i = 30 by omega) with rfl | rfl | rfl | rfl | rfl | rfl | rfl | rfl | rfl | rfl | rfl | rfl | rfl | rfl | rfl | rfl | rfl | rfl | rfl | rfl | rfl | rfl | rfl | rfl | rfl | rfl | rfl | rfl | rfl | rfl | rfl
  · exact fix_value (i := 0) (d := 43) rfl (wanted_none rfl) rfl (by decide) (x_move rfl ((hacc hf).trans e5))
  · exact fix_value (i := 1) (d := 44) rfl (wanted_none rfl) rfl (by decide) (x_move rfl (h.get 0 43 (by decide) (hneed 0 (by kernel_rfl))))
  · exact fix_value (i := 2) (d := 45) rfl (wanted_some rfl rfl rfl (h.get 1 44 (by decide) (hneed 1 (by kernel_rfl)))) rfl (by decide) (x_field rfl ((h.old rfl).trans e2) (by simp [go_sem]))
  · exact fix_value (i := 3) (d := 46) rfl (wanted_some rfl rfl rfl (h.get 1 44 (by decide) (hneed 1 (by kernel_rfl)))) rfl (by decide) (x_load rfl (h.get 2 45 (by decide) (hneed 2 (by kernel_rfl))) (by have h0 := (h.below.cell (p := ⟨gp, 4, none⟩) lp).trans p4; simp [go_sem, h0]; try rfl))
  · exact fix_value (i := 4) (d := 47) rfl (wanted_some rfl rfl rfl (h.get 1 44 (by decide) (hneed 1 (by kernel_rfl)))) rfl (by decide) (x_move rfl ((h.old rfl).trans e6))
  · exact fix_value (i := 5) (d := 48) rfl (wanted_some rfl rfl rfl (h.get 1 44 (by decide) (hneed 1 (by kernel_rfl)))) rfl (by decide) (x_index rfl (h.get 3 46 (by decide) (hneed 3 (by kernel_rfl))) (h.get 4 47 (by decide) (hneed 4 (by kernel_rfl))) (index_eq w b off n c j hj))
  · exact fix_value (i := 6) (d := 49) rfl (wanted_some rfl rfl rfl (h.get 1 44 (by decide) (hneed 1 (by kernel_rfl)))) rfl (by decide) (x_field rfl (h.get 5 48 (by decide) (hneed 5 (by kernel_rfl))) (by simp [go_sem]))
  · exact fix_value (i := 7) (d := 50) rfl (wanted_some rfl rfl rfl (h.get 1 44 (by decide) (hneed 1 (by kernel_rfl)))) rfl (by decide) (x_load rfl (h.get 6 49 (by decide) (hneed 6 (by kernel_rfl))) (by have h6 := (h.below.cell (p := ⟨b, off + j * 10 + 6, none⟩) lb).trans m6; have h7 := (h.below.cell (p := ⟨b, off + j * 10 + 7, none⟩) lb).trans m7; have h8 := (h.below.cell (p := ⟨b, off + j * 10 + 8, none⟩) lb).trans m8; have h9 := (h.below.cell (p := ⟨b, off + j * 10 + 9, none⟩) lb).trans m9; simp [go_sem, h6, h7, h8, h9]; try rfl))
  · exact fix_value (i := 8) (d := 51) rfl (wanted_some rfl rfl rfl (h.get 1 44 (by decide) (hneed 1 (by kernel_rfl)))) rfl (by decide) (x_field rfl ((h.old rfl).trans e3) (by simp [go_sem]))
  · exact fix_value (i := 9) (d := 52) rfl (wanted_some rfl rfl rfl (h.get 1 44 (by decide) (hneed 1 (by kernel_rfl)))) rfl (by decide) (x_load rfl (h.get 8 51 (by decide) (hneed 8 (by kernel_rfl))) (by have h0 := (h.below.cell (p := ⟨gq, 4, none⟩) lq).trans q4; simp [go_sem, h0]; try rfl))
  · exact fix_value (i := 10) (d := 53) rfl (wanted_some rfl rfl rfl (h.get 1 44 (by decide) (hneed 1 (by kernel_rfl)))) rfl (by decide) (x_move rfl ((h.old rfl).trans e6))
  · exact fix_value (i := 11) (d := 54) rfl (wanted_some rfl rfl rfl (h.get 1 44 (by decide) (hneed 1 (by kernel_rfl)))) rfl (by decide) (x_index rfl (h.get 9 52 (by decide) (hneed 9 (by kernel_rfl))) (h.get 10 53 (by decide) (hneed 10 (by kernel_rfl))) (index_eq w b2 off2 n2 c2 j hj2))
  · exact fix_value (i := 12) (d := 55) rfl (wanted_some rfl rfl rfl (h.get 1 44 (by decide) (hneed 1 (by kernel_rfl)))) rfl (by decide) (x_field rfl (h.get 11 54 (by decide) (hneed 11 (by kernel_rfl))) (by simp [go_sem]))
  · exact fix_value (i := 13) (d := 56) rfl (wanted_some rfl rfl rfl (h.get 1 44 (by decide) (hneed 1 (by kernel_rfl)))) rfl (by decide) (x_load rfl (h.get 12 55 (by decide) (hneed 12 (by kernel_rfl))) (by have h6 := (h.below.cell (p := ⟨b2, off2 + j * 10 + 6, none⟩) lb2).trans r6; have h7 := (h.below.cell (p := ⟨b2, off2 + j * 10 + 7, none⟩) lb2).trans r7; have h8 := (h.below.cell (p := ⟨b2, off2 + j * 10 + 8, none⟩) lb2).trans r8; have h9 := (h.below.cell (p := ⟨b2, off2 + j * 10 + 9, none⟩) lb2).trans r9; simp [go_sem, h6, h7, h8, h9]; try rfl))
  · refine fix_call (i := 14) (d := 57) 30 Try.f30 #[.tmp 50, .tmp 56] _ #[.agg #[.int .i64 ex.kind, .int .i32 ex.n, .string ⟨ex.name.toArray⟩, .slice AX ex.sub.length cX], .agg #[.int .i64 ey.kind, .int .i32 ey.n, .string ⟨ey.name.toArray⟩, .slice AY ey.sub.length cY]] rfl (wanted_some rfl rfl rfl (h.get 1 44 (by decide) (hneed 1 (by kernel_rfl)))) rfl (by decide) rfl (by simp [(h.get 7 50 (by decide) (hneed 7 (by kernel_rfl))), (h.get 13 56 (by decide) (hneed 13 (by kernel_rfl))), tl7Val]) Try.func30 (by kernel_rfl) (by kernel_rfl) ?_
    exact hts w h.below
  · exact fix_value (i := 15) (d := 58) rfl (wanted_some rfl rfl rfl (h.get 1 44 (by decide) (hneed 1 (by kernel_rfl)))) rfl (by decide) (x_field rfl ((h.old rfl).trans e2) (by simp [go_sem]))
  · exact fix_value (i := 16) (d := 59) rfl (wanted_some rfl rfl rfl (h.get 1 44 (by decide) (hneed 1 (by kernel_rfl)))) rfl (by decide) (x_load rfl (h.get 15 58 (by decide) (hneed 15 (by kernel_rfl))) (by have h0 := (h.below.cell (p := ⟨gp, 4, none⟩) lp).trans p4; simp [go_sem, h0]; try rfl))
  · exact fix_value (i := 17) (d := 60) rfl (wanted_some rfl rfl rfl (h.get 1 44 (by decide) (hneed 1 (by kernel_rfl)))) rfl (by decide) (x_move rfl ((h.old rfl).trans e6))
  · exact fix_value (i := 18) (d := 61) rfl (wanted_some rfl rfl rfl (h.get 1 44 (by decide) (hneed 1 (by kernel_rfl)))) rfl (by decide) (x_index rfl (h.get 16 59 (by decide) (hneed 16 (by kernel_rfl))) (h.get 17 60 (by decide) (hneed 17 (by kernel_rfl))) (index_eq w b off n c j hj))
  · exact fix_value (i := 19) (d := 62) rfl (wanted_some rfl rfl rfl (h.get 1 44 (by decide) (hneed 1 (by kernel_rfl)))) rfl (by decide) (x_field rfl (h.get 18 61 (by decide) (hneed 18 (by kernel_rfl))) (by simp [go_sem]))
  · exact fix_value (i := 20) (d := 63) rfl (wanted_some rfl rfl rfl (h.get 1 44 (by decide) (hneed 1 (by kernel_rfl)))) rfl (by decide) (x_load rfl (h.get 19 62 (by decide) (hneed 19 (by kernel_rfl))) (by have h6 := (h.below.cell (p := ⟨b, off + j * 10 + 6, none⟩) lb).trans m6; have h7 := (h.below.cell (p := ⟨b, off + j * 10 + 7, none⟩) lb).trans m7; have h8 := (h.below.cell (p := ⟨b, off + j * 10 + 8, none⟩) lb).trans m8; have h9 := (h.below.cell (p := ⟨b, off + j * 10 + 9, none⟩) lb).trans m9; simp [go_sem, h6, h7, h8, h9]; try rfl))
  · exact fix_value (i := 21) (d := 64) rfl (wanted_some rfl rfl rfl (h.get 1 44 (by decide) (hneed 1 (by kernel_rfl)))) rfl (by decide) (x_field rfl ((h.old rfl).trans e3) (by simp [go_sem]))
  · exact fix_value (i := 22) (d := 65) rfl (wanted_some rfl rfl rfl (h.get 1 44 (by decide) (hneed 1 (by kernel_rfl)))) rfl (by decide) (x_load rfl (h.get 21 64 (by decide) (hneed 21 (by kernel_rfl))) (by have h0 := (h.below.cell (p := ⟨gq, 4, none⟩) lq).trans q4; simp [go_sem, h0]; try rfl))
  · exact fix_value (i := 23) (d := 66) rfl (wanted_some rfl rfl rfl (h.get 1 44 (by decide) (hneed 1 (by kernel_rfl)))) rfl (by decide) (x_move rfl ((h.old rfl).trans e6))
  · exact fix_value (i := 24) (d := 67) rfl (wanted_some rfl rfl rfl (h.get 1 44 (by decide) (hneed 1 (by kernel_rfl)))) rfl (by decide) (x_index rfl (h.get 22 65 (by decide) (hneed 22 (by kernel_rfl))) (h.get 23 66 (by decide) (hneed 23 (by kernel_rfl))) (index_eq w b2 off2 n2 c2 j hj2))
  · exact fix_value (i := 25) (d := 68) rfl (wanted_some rfl rfl rfl (h.get 1 44 (by decide) (hneed 1 (by kernel_rfl)))) rfl (by decide) (x_field rfl (h.get 24 67 (by decide) (hneed 24 (by kernel_rfl))) (by simp [go_sem]))
  · exact fix_value (i := 26) (d := 69) rfl (wanted_some rfl rfl rfl (h.get 1 44 (by decide) (hneed 1 (by kernel_rfl)))) rfl (by decide) (x_load rfl (h.get 25 68 (by decide) (hneed 25 (by kernel_rfl))) (by have h6 := (h.below.cell (p := ⟨b2, off2 + j * 10 + 6, none⟩) lb2).trans r6; have h7 := (h.below.cell (p := ⟨b2, off2 + j * 10 + 7, none⟩) lb2).trans r7; have h8 := (h.below.cell (p := ⟨b2, off2 + j * 10 + 8, none⟩) lb2).trans r8; have h9 := (h.below.cell (p := ⟨b2, off2 + j * 10 + 9, none⟩) lb2).trans r9; simp [go_sem, h6, h7, h8, h9]; try rfl))
  · refine fix_call (i := 27) (d := 70) 28 Try.f28 #[.tmp 63, .tmp 69] _ #[.agg #[.int .i64 ex.kind, .int .i32 ex.n, .string ⟨ex.name.toArray⟩, .slice AX ex.sub.length cX], .agg #[.int .i64 ey.kind, .int .i32 ey.n, .string ⟨ey.name.toArray⟩, .slice AY ey.sub.length cY]] rfl (wanted_some rfl rfl rfl (h.get 1 44 (by decide) (hneed 1 (by kernel_rfl)))) rfl (by decide) rfl (by simp [(h.get 20 63 (by decide) (hneed 20 (by kernel_rfl))), (h.get 26 69 (by decide) (hneed 26 (by kernel_rfl))), tl7Val]) Try.func28 (by kernel_rfl) (by kernel_rfl) ?_
    exact hrs w h.below
  · exact fix_value (i := 28) (d := 71) rfl (wanted_some rfl rfl rfl (h.get 1 44 (by decide) (hneed 1 (by kernel_rfl)))) rfl (by decide) ((by rw [x_eql_bool Try.underlying4 rfl (h.get 14 57 (by decide) (hneed 14 (by kernel_rfl))) (h.get 27 70 (by decide) (hneed 27 (by kernel_rfl)))]; simp; rfl))
  · exact fix_value (i := 29) (d := 72) rfl (wanted_none rfl) rfl (by decide) (x_pick_t rfl (h.get 1 44 (by decide) (hneed 1 (by kernel_rfl))) (h.get 28 71 (by decide) (hneed 28 (by kernel_rfl))))
  · exact fix_value (i := 30) (d := 5) rfl (wanted_none rfl) rfl (by decide) (x_assign rfl (h.get 29 72 (by decide) (hneed 29 (by kernel_rfl))))
end Go.Proofs.Ytilkilffkjhhbaa
