/-
  Light's drawn statement.
-/
import Derived.Test.YtilkilffkjhhbaaTrMem
import Derived.Test.YtilkilffkjhhbaaTrX
import Derived.Test.YtilkilffkjhhbaaRegAcc
import Derived.Test.YtilkilffkjhhbaaRgn
namespace Go.Proofs.Ytilkilffkjhhbaa
set_option maxRecDepth 20000
set_option linter.unusedVariables false
open Go.RowKit Mem

theorem index_eq (w : World) (b off n c j : Nat) (h : j < n) : (Instr.indexAt 24 (.slice (some ⟨b, off, none⟩) n c) (.int .i64 (j : Int))).run Try.prog w = .ok (.pointer (some ⟨b, off + j * 10, none⟩)) w := by
  have e : (j : Int) < (n : Int) := by omega
  simp [go_sem, e]
set_option linter.unusedVariables false
noncomputable def lgtOps : Array Oper := findOps 7 ((Try.f15).body.getD (.exit 0))
def lgtSlots : List (Nat × Nat) := [(0, 40), (1, 41), (2, 42), (3, 43), (4, 44), (5, 45), (6, 46), (7, 47), (8, 48), (9, 49), (10, 50), (11, 51), (12, 52), (13, 53), (14, 54), (15, 55), (16, 56), (17, 3)]
def lgtVal (gp b off ln ce j n se sf : Nat) (q : Tr.Eqn) (AF AE : Option Addr) (cF cE : Nat) : Nat → Value
  | 0 => .int .i64 (n : Int)
  | 1 => .pointer (some ⟨gp, 4, none⟩)
  | 2 => .slice (some ⟨b, off, none⟩) ln ce
  | 3 => .int .i64 (j : Int)
  | 4 => .pointer (some ⟨b, off + j * 10, none⟩)
  | 5 => .pointer (some ⟨b, off + j * 10 + 6, none⟩)
  | 6 => .agg #[.int .i64 q.e.kind, .int .i32 q.e.n, .string ⟨q.e.name.toArray⟩, .slice AE q.e.sub.length cE]
  | 7 => .int .i64 (se : Int)
  | 8 => .int .i64 ((n : Int) + (se : Int))
  | 9 => .pointer (some ⟨gp, 4, none⟩)
  | 10 => .slice (some ⟨b, off, none⟩) ln ce
  | 11 => .int .i64 (j : Int)
  | 12 => .pointer (some ⟨b, off + j * 10, none⟩)
  | 13 => .pointer (some ⟨b, off + j * 10 + 2, none⟩)
  | 14 => .agg #[.int .i64 q.first.kind, .int .i32 q.first.n, .string ⟨q.first.name.toArray⟩, .slice AF q.first.sub.length cF]
  | 15 => .int .i64 (sf : Int)
  | 16 => .int .i64 ((n : Int) + (se : Int) + (sf : Int))
  | _ => .int .i64 ((n : Int) + (se : Int) + (sf : Int))
theorem lgtRegion {Q : Exit → Act → World → Prop} (a0 : Act) (W0 : World) (hs : 56 < a0.tmps.size) (gp b off ln ce j n se sf : Nat) (q : Tr.Eqn) (AF AE : Option Addr) (cF cE : Nat) (hj : j < ln) (hn : n ≤ 3000) (hse : se ≤ 300) (hsf : sf ≤ 300) (p4 : W0.cell? ⟨gp, 4, none⟩ = some (.slice (some ⟨b, off, none⟩) ln ce)) (m2 : W0.cell? ⟨b, off + j * 10 + 2, none⟩ = some (.int .i64 q.first.kind)) (m3 : W0.cell? ⟨b, off + j * 10 + 3, none⟩ = some (.int .i32 q.first.n)) (m4 : W0.cell? ⟨b, off + j * 10 + 4, none⟩ = some (.string ⟨q.first.name.toArray⟩)) (m5 : W0.cell? ⟨b, off + j * 10 + 5, none⟩ = some (.slice AF q.first.sub.length cF)) (m6 : W0.cell? ⟨b, off + j * 10 + 6, none⟩ = some (.int .i64 q.e.kind)) (m7 : W0.cell? ⟨b, off + j * 10 + 7, none⟩ = some (.int .i32 q.e.n)) (m8 : W0.cell? ⟨b, off + j * 10 + 8, none⟩ = some (.string ⟨q.e.name.toArray⟩)) (m9 : W0.cell? ⟨b, off + j * 10 + 9, none⟩ = some (.slice AE q.e.sub.length cE)) (h1 : ∀ W, Below W0.heap.size W0 W → Calls Try.prog 20 #[.agg #[.int .i64 q.e.kind, .int .i32 q.e.n, .string ⟨q.e.name.toArray⟩, .slice AE q.e.sub.length cE], .int .i64 300] W fun e w' => e = .returned (.int .i64 (se : Int)) ∧ Below W.heap.size W w') (h2 : ∀ W, Below W0.heap.size W0 W → Calls Try.prog 20 #[.agg #[.int .i64 q.first.kind, .int .i32 q.first.n, .string ⟨q.first.name.toArray⟩, .slice AF q.first.sub.length cF], .int .i64 300] W fun e w' => e = .returned (.int .i64 (sf : Int)) ∧ Below W.heap.size W w')
    (e1 : a0.eval (.tmp 1) = .pointer (some ⟨gp, 0, none⟩))
    (e3 : a0.eval (.tmp 3) = .int .i64 (n : Int))
    (e4 : a0.eval (.tmp 4) = .int .i64 (j : Int))
    (hQ : ∀ w, Below W0.heap.size W0 w → Q .normal (lgtSlots.foldl (fun x p => x.put (some p.2) ((lgtVal gp b off ln ce j n se sf q AF AE cF cE) p.1)) a0) w) :
    wpAny Try.prog .any lgtOps Q 18 (Array.replicate 18 false) a0 W0.drew := by
  have ok : slotsFix lgtSlots a0.tmps.size = true := by
    have : ∀ z, 56 < z → slotsFix lgtSlots z = true := by
      intro z hz
      simp [slotsFix, lgtSlots]
      omega
    exact this _ hs
  have lp : gp < W0.heap.size := World.block_lt_of_cell? _ _ p4
  have lb : b < W0.heap.size := World.block_lt_of_cell? _ _ m2
  refine region_acc (by kernel_rfl) W0 a0 lgtSlots (lgtVal gp b off ln ce j n se sf q AF AE cF cE) ok (by kernel_rfl) 18 (by kernel_rfl) 17 [16, 8, 0] 3 (by kernel_rfl) (by decide) ?_ hQ
  intro i L a w h hacc hf hi hneed
  rcases (show i = 0 ∨ i = 1 ∨ i = 2 ∨ i = 3 ∨ i = 4 ∨ i = 5 ∨ i = 6 ∨ i = 7 ∨ i = 8 ∨ i = 9 ∨ i = 10 ∨ i = 11 ∨ i = 12 ∨ i = 13 ∨ i = 14 ∨ i = 15 ∨ i = 16 ∨ i = 17 by omega) with rfl | rfl | rfl | rfl | rfl | rfl | rfl | rfl | rfl | rfl | rfl | rfl | rfl | rfl | rfl | rfl | rfl | rfl
  · exact fix_value (i := 0) (d := 40) rfl (wanted_none rfl) rfl (by decide) (x_move rfl ((hacc hf).trans e3))
  · exact fix_value (i := 1) (d := 41) rfl (wanted_none rfl) rfl (by decide) (x_field rfl ((h.old rfl).trans e1) (by simp [go_sem]))
  · exact fix_value (i := 2) (d := 42) rfl (wanted_none rfl) rfl (by decide) (x_load rfl (h.get 1 41 (by decide) (hneed 1 (by kernel_rfl))) (by have h0 := (h.below.cell (p := ⟨gp, 4, none⟩) lp).trans p4; simp [go_sem, h0]; try rfl))
  · exact fix_value (i := 3) (d := 43) rfl (wanted_none rfl) rfl (by decide) (x_move rfl ((h.old rfl).trans e4))
  · exact fix_value (i := 4) (d := 44) rfl (wanted_none rfl) rfl (by decide) (x_index rfl (h.get 2 42 (by decide) (hneed 2 (by kernel_rfl))) (h.get 3 43 (by decide) (hneed 3 (by kernel_rfl))) (index_eq w b off ln ce j hj))
  · exact fix_value (i := 5) (d := 45) rfl (wanted_none rfl) rfl (by decide) (x_field rfl (h.get 4 44 (by decide) (hneed 4 (by kernel_rfl))) (by simp [go_sem]))
  · exact fix_value (i := 6) (d := 46) rfl (wanted_none rfl) rfl (by decide) (x_load rfl (h.get 5 45 (by decide) (hneed 5 (by kernel_rfl))) (by have h6 := (h.below.cell (p := ⟨b, off + j * 10 + 6, none⟩) lb).trans m6; have h7 := (h.below.cell (p := ⟨b, off + j * 10 + 7, none⟩) lb).trans m7; have h8 := (h.below.cell (p := ⟨b, off + j * 10 + 8, none⟩) lb).trans m8; have h9 := (h.below.cell (p := ⟨b, off + j * 10 + 9, none⟩) lb).trans m9; simp [go_sem, h6, h7, h8, h9]; try rfl))
  · refine fix_call (i := 7) (d := 47) 20 Try.f20 #[.tmp 46, .const (.int .i64 300)] _ #[.agg #[.int .i64 q.e.kind, .int .i32 q.e.n, .string ⟨q.e.name.toArray⟩, .slice AE q.e.sub.length cE], .int .i64 300] rfl (wanted_none rfl) rfl (by decide) rfl (by simp [(h.get 6 46 (by decide) (hneed 6 (by kernel_rfl))), lgtVal, Act.eval_const_]) Try.func20 (by kernel_rfl) (by kernel_rfl) ?_
    exact h1 w h.below
  · exact fix_value (i := 8) (d := 48) rfl (wanted_none rfl) rfl (by decide) (x_add64 rfl (h.get 0 40 (by decide) (hneed 0 (by kernel_rfl))) (h.get 7 47 (by decide) (hneed 7 (by kernel_rfl))) (IntWalk.i64_in _ (by omega)))
  · exact fix_value (i := 9) (d := 49) rfl (wanted_none rfl) rfl (by decide) (x_field rfl ((h.old rfl).trans e1) (by simp [go_sem]))
  · exact fix_value (i := 10) (d := 50) rfl (wanted_none rfl) rfl (by decide) (x_load rfl (h.get 9 49 (by decide) (hneed 9 (by kernel_rfl))) (by have h0 := (h.below.cell (p := ⟨gp, 4, none⟩) lp).trans p4; simp [go_sem, h0]; try rfl))
  · exact fix_value (i := 11) (d := 51) rfl (wanted_none rfl) rfl (by decide) (x_move rfl ((h.old rfl).trans e4))
  · exact fix_value (i := 12) (d := 52) rfl (wanted_none rfl) rfl (by decide) (x_index rfl (h.get 10 50 (by decide) (hneed 10 (by kernel_rfl))) (h.get 11 51 (by decide) (hneed 11 (by kernel_rfl))) (index_eq w b off ln ce j hj))
  · exact fix_value (i := 13) (d := 53) rfl (wanted_none rfl) rfl (by decide) (x_field rfl (h.get 12 52 (by decide) (hneed 12 (by kernel_rfl))) (by simp [go_sem]))
  · exact fix_value (i := 14) (d := 54) rfl (wanted_none rfl) rfl (by decide) (x_load rfl (h.get 13 53 (by decide) (hneed 13 (by kernel_rfl))) (by have h2 := (h.below.cell (p := ⟨b, off + j * 10 + 2, none⟩) lb).trans m2; have h3 := (h.below.cell (p := ⟨b, off + j * 10 + 3, none⟩) lb).trans m3; have h4 := (h.below.cell (p := ⟨b, off + j * 10 + 4, none⟩) lb).trans m4; have h5 := (h.below.cell (p := ⟨b, off + j * 10 + 5, none⟩) lb).trans m5; simp [go_sem, h2, h3, h4, h5]; try rfl))
  · refine fix_call (i := 15) (d := 55) 20 Try.f20 #[.tmp 54, .const (.int .i64 300)] _ #[.agg #[.int .i64 q.first.kind, .int .i32 q.first.n, .string ⟨q.first.name.toArray⟩, .slice AF q.first.sub.length cF], .int .i64 300] rfl (wanted_none rfl) rfl (by decide) rfl (by simp [(h.get 14 54 (by decide) (hneed 14 (by kernel_rfl))), lgtVal, Act.eval_const_]) Try.func20 (by kernel_rfl) (by kernel_rfl) ?_
    exact h2 w h.below
  · exact fix_value (i := 16) (d := 56) rfl (wanted_none rfl) rfl (by decide) (x_add64 rfl (h.get 8 48 (by decide) (hneed 8 (by kernel_rfl))) (h.get 15 55 (by decide) (hneed 15 (by kernel_rfl))) (IntWalk.i64_in _ (by omega)))
  · exact fix_value (i := 17) (d := 3) rfl (wanted_none rfl) rfl (by decide) (x_assign rfl (h.get 16 56 (by decide) (hneed 16 (by kernel_rfl))))
end Go.Proofs.Ytilkilffkjhhbaa
