/-
  The law's drawn statement.
-/
import Derived.Test.YtilkilffkjhhbaaTrK
import Derived.Test.YtilkilffkjhhbaaTrX
import Derived.Test.YtilkilffkjhhbaaTrD
import Derived.Test.YtilkilffkjhhbaaRgn
namespace Go.Proofs.Ytilkilffkjhhbaa
set_option maxRecDepth 20000
set_option linter.unusedVariables false
open Go.RowKit Mem

set_option linter.unusedVariables false
noncomputable def tshowsOps : Array Oper := findOps 5 ((Try.f7).body.getD (.exit 0))
def tshowsSlots : List (Nat × Nat) := [(0, 26), (1, 27), (2, 28), (3, 29), (4, 30), (5, 31), (6, 32), (7, 33), (8, 34), (9, 35), (10, 36), (11, 37), (12, 38), (13, 39), (14, 40), (15, 41), (16, 42), (17, 43), (18, 2)]
def tshowsVal (ge : Nat) (tx : List UInt8) (r : Int) (ex : Tr.Ex) (A : Option Addr) (cap : Nat) : Nat → Value
  | 0 => .string ⟨tx.toArray⟩
  | 1 => .string ⟨tx.toArray⟩
  | 2 => .bool true
  | 3 => .bool true
  | 4 => .int .i64 r
  | 5 => .int .i64 r
  | 6 => .bool true
  | 7 => .bool true
  | 8 => .bool true
  | 9 => .agg #[.int .i64 ex.kind, .int .i32 ex.n, .string ⟨ex.name.toArray⟩, .slice A ex.sub.length cap]
  | 10 => .int .i64 r
  | 11 => .agg #[.int .i64 ex.kind, .int .i32 ex.n, .string ⟨ex.name.toArray⟩, .slice A ex.sub.length cap]
  | 12 => .int .i64 r
  | 13 => .bool true
  | 14 => .bool true
  | 15 => .bool true
  | 16 => .bool true
  | 17 => .bool true
  | _ => .bool true
theorem tshowsRegion {Q : Exit → Act → World → Prop} (a0 : Act) (W0 : World) (hs : 43 < a0.tmps.size) (ge : Nat) (tx : List UInt8) (r : Int) (ex : Tr.Ex) (A : Option Addr) (cap : Nat) (m0 : W0.cell? ⟨ge, 0, none⟩ = some (.int .i64 ex.kind)) (m1 : W0.cell? ⟨ge, 1, none⟩ = some (.int .i32 ex.n)) (m2 : W0.cell? ⟨ge, 2, none⟩ = some (.string ⟨ex.name.toArray⟩)) (m3 : W0.cell? ⟨ge, 3, none⟩ = some (.slice A ex.sub.length cap)) (hr1 : ∀ W, Below W0.heap.size W0 W → Calls Try.prog 21 #[.agg #[.int .i64 ex.kind, .int .i32 ex.n, .string ⟨ex.name.toArray⟩, .slice A ex.sub.length cap]] W fun e w' => e = .returned (.int .i64 r) ∧ Below W.heap.size W w') (hr2 : ∀ W, Below W0.heap.size W0 W → Calls Try.prog 24 #[.agg #[.int .i64 ex.kind, .int .i32 ex.n, .string ⟨ex.name.toArray⟩, .slice A ex.sub.length cap]] W fun e w' => e = .returned (.int .i64 r) ∧ Below W.heap.size W w')
    (e1 : a0.eval (.tmp 1) = .pointer (some ⟨ge, 0, none⟩))
    (e3 : a0.eval (.tmp 3) = .string ⟨tx.toArray⟩)
    (e5 : a0.eval (.tmp 5) = .string ⟨tx.toArray⟩)
    (e4 : a0.eval (.tmp 4) = .int .i64 r)
    (e6 : a0.eval (.tmp 6) = .int .i64 r)
    (hQ : ∀ w, Below W0.heap.size W0 w → Q .normal (tshowsSlots.foldl (fun x p => x.put (some p.2) ((tshowsVal ge tx r ex A cap) p.1)) a0) w) :
    wpAny Try.prog .any tshowsOps Q 19 (Array.replicate 19 false) a0 W0.drew := by
  have ok : slotsFix tshowsSlots a0.tmps.size = true := by
    have : ∀ z, 43 < z → slotsFix tshowsSlots z = true := by
      intro z hz
      simp [slotsFix, tshowsSlots]
      omega
    exact this _ hs
  have lge : ge < W0.heap.size := World.block_lt_of_cell? _ _ m0
  refine region_fixed (by kernel_rfl) W0 a0 tshowsSlots (tshowsVal ge tx r ex A cap) ok (by kernel_rfl) 19 (by kernel_rfl) ?_ hQ
  intro i L a w h hi hneed
  rcases (show i = 0 ∨ i = 1 ∨ i = 2 ∨ i = 3 ∨ i = 4 ∨ i = 5 ∨ i = 6 ∨ i = 7 ∨ i = 8 ∨ i = 9 ∨ i = 10 ∨ i = 11 ∨ i = 12 ∨ i = 13 ∨ i = 14 ∨ i = 15 ∨ i = 16 ∨ i = 17 ∨ i = 18 by omega) with rfl | rfl | rfl | rfl | rfl | rfl | rfl | rfl | rfl | rfl | rfl | rfl | rfl | rfl | rfl | rfl | rfl | rfl | rfl
  · exact fix_value (i := 0) (d := 26) rfl (wanted_none rfl) rfl (by decide) (x_move rfl ((h.old rfl).trans e3))
  · exact fix_value (i := 1) (d := 27) rfl (wanted_none rfl) rfl (by decide) (x_move rfl ((h.old rfl).trans e5))
  · exact fix_value (i := 2) (d := 28) rfl (wanted_none rfl) rfl (by decide) (x_eql_true_str rfl (h.get 0 26 (by decide) (hneed 0 (by kernel_rfl))) (h.get 1 27 (by decide) (hneed 1 (by kernel_rfl))))
  · exact fix_value (i := 3) (d := 29) rfl (wanted_none rfl) rfl (by decide) (x_move rfl (h.get 2 28 (by decide) (hneed 2 (by kernel_rfl))))
  · exact fix_value (i := 4) (d := 30) rfl (wanted_some rfl rfl rfl (h.get 3 29 (by decide) (hneed 3 (by kernel_rfl)))) rfl (by decide) (x_move rfl ((h.old rfl).trans e4))
  · exact fix_value (i := 5) (d := 31) rfl (wanted_some rfl rfl rfl (h.get 3 29 (by decide) (hneed 3 (by kernel_rfl)))) rfl (by decide) (x_move rfl ((h.old rfl).trans e6))
  · exact fix_value (i := 6) (d := 32) rfl (wanted_some rfl rfl rfl (h.get 3 29 (by decide) (hneed 3 (by kernel_rfl)))) rfl (by decide) (x_eql_true_int rfl (h.get 4 30 (by decide) (hneed 4 (by kernel_rfl))) (h.get 5 31 (by decide) (hneed 5 (by kernel_rfl))))
  · exact fix_value (i := 7) (d := 33) rfl (wanted_none rfl) rfl (by decide) (x_pick_t rfl (h.get 3 29 (by decide) (hneed 3 (by kernel_rfl))) (h.get 6 32 (by decide) (hneed 6 (by kernel_rfl))))
  · exact fix_value (i := 8) (d := 34) rfl (wanted_none rfl) rfl (by decide) (x_move rfl (h.get 7 33 (by decide) (hneed 7 (by kernel_rfl))))
  · exact fix_value (i := 9) (d := 35) rfl (wanted_some rfl rfl rfl (h.get 8 34 (by decide) (hneed 8 (by kernel_rfl)))) rfl (by decide) (x_load rfl ((h.old rfl).trans e1) (by have h0 := (h.below.cell (p := ⟨ge, 0, none⟩) lge).trans m0; have h1 := (h.below.cell (p := ⟨ge, 1, none⟩) lge).trans m1; have h2 := (h.below.cell (p := ⟨ge, 2, none⟩) lge).trans m2; have h3 := (h.below.cell (p := ⟨ge, 3, none⟩) lge).trans m3; simp [go_sem, h0, h1, h2, h3]; try rfl))
  · refine fix_call (i := 10) (d := 36) 21 Try.f21 #[.tmp 35] _ #[.agg #[.int .i64 ex.kind, .int .i32 ex.n, .string ⟨ex.name.toArray⟩, .slice A ex.sub.length cap]] rfl (wanted_some rfl rfl rfl (h.get 8 34 (by decide) (hneed 8 (by kernel_rfl)))) rfl (by decide) rfl (by simp [(h.get 9 35 (by decide) (hneed 9 (by kernel_rfl))), tshowsVal]) Try.func21 (by kernel_rfl) (by kernel_rfl) ?_
    exact hr1 w h.below
  · exact fix_value (i := 11) (d := 37) rfl (wanted_some rfl rfl rfl (h.get 8 34 (by decide) (hneed 8 (by kernel_rfl)))) rfl (by decide) (x_load rfl ((h.old rfl).trans e1) (by have h0 := (h.below.cell (p := ⟨ge, 0, none⟩) lge).trans m0; have h1 := (h.below.cell (p := ⟨ge, 1, none⟩) lge).trans m1; have h2 := (h.below.cell (p := ⟨ge, 2, none⟩) lge).trans m2; have h3 := (h.below.cell (p := ⟨ge, 3, none⟩) lge).trans m3; simp [go_sem, h0, h1, h2, h3]; try rfl))
  · refine fix_call (i := 12) (d := 38) 24 Try.f24 #[.tmp 37] _ #[.agg #[.int .i64 ex.kind, .int .i32 ex.n, .string ⟨ex.name.toArray⟩, .slice A ex.sub.length cap]] rfl (wanted_some rfl rfl rfl (h.get 8 34 (by decide) (hneed 8 (by kernel_rfl)))) rfl (by decide) rfl (by simp [(h.get 11 37 (by decide) (hneed 11 (by kernel_rfl))), tshowsVal]) Try.func24 (by kernel_rfl) (by kernel_rfl) ?_
    exact hr2 w h.below
  · exact fix_value (i := 13) (d := 39) rfl (wanted_some rfl rfl rfl (h.get 8 34 (by decide) (hneed 8 (by kernel_rfl)))) rfl (by decide) (x_eql_true_int rfl (h.get 10 36 (by decide) (hneed 10 (by kernel_rfl))) (h.get 12 38 (by decide) (hneed 12 (by kernel_rfl))))
  · exact fix_value (i := 14) (d := 40) rfl (wanted_none rfl) rfl (by decide) (x_pick_t rfl (h.get 8 34 (by decide) (hneed 8 (by kernel_rfl))) (h.get 13 39 (by decide) (hneed 13 (by kernel_rfl))))
  · exact fix_value (i := 15) (d := 41) rfl (wanted_none rfl) rfl (by decide) (x_move rfl (h.get 14 40 (by decide) (hneed 14 (by kernel_rfl))))
  · refine fix_call (i := 16) (d := 42) 11 Try.f11 #[] _ #[] rfl (wanted_some rfl rfl rfl (h.get 15 41 (by decide) (hneed 15 (by kernel_rfl)))) rfl (by decide) rfl (by simp) Try.func11 (by kernel_rfl) (by kernel_rfl) ?_
    exact known_any w
  · exact fix_value (i := 17) (d := 43) rfl (wanted_none rfl) rfl (by decide) (x_pick_t rfl (h.get 15 41 (by decide) (hneed 15 (by kernel_rfl))) (h.get 16 42 (by decide) (hneed 16 (by kernel_rfl))))
  · exact fix_value (i := 18) (d := 2) rfl (wanted_none rfl) rfl (by decide) (x_assign rfl (h.get 17 43 (by decide) (hneed 17 (by kernel_rfl))))
end Go.Proofs.Ytilkilffkjhhbaa
