/-
  A drawn statement of JudgeChecks, whatever the order.
-/
import Derived.Test.YtlfbpcjeohbfkaaJuO
import Derived.Test.YtlfbpcjeohbfkaaJuX
import Derived.Test.YtlfbpcjeohbfkaaInsM
import Derived.Test.YtlfbpcjeohbfkaaJuG
import Derived.Test.YtlfbpcjeohbfkaaRegFix
namespace Go.Proofs.Ytlfbpcjeohbfkaa
open Go.RowKit Mem

set_option linter.unusedVariables false
noncomputable def jchOps : Array Oper := findOps 6 ((Try.f3).body.getD (.exit 0))
def jchSlots : List (Nat × Nat) := [(0, 32), (1, 33), (2, 34), (3, 35), (4, 36), (5, 37), (6, 38), (7, 39), (8, 40), (9, 41), (10, 42), (11, 43), (12, 44), (13, 45), (14, 46), (15, 47), (16, 48), (17, 49), (18, 50), (19, 51), (20, 52), (21, 53), (22, 54), (23, 55), (24, 56), (25, 57), (26, 58), (27, 59), (28, 60), (29, 61), (30, 62), (31, 63), (32, 64), (33, 65), (34, 66), (35, 67), (36, 68), (37, 4)]
def jchVal (f : Ju.Fr) (l : List Ia.Ins) (A A5 : Option Addr) (c c5 gf gx gy : Nat) (r : Ju.Res) : Nat → Value
  | 0 => .pointer (some ⟨gx, 0, none⟩)
  | 1 => .int .i64 r.dp
  | 2 => .pointer (some ⟨gy, 0, none⟩)
  | 3 => .int .i64 r.dp
  | 4 => .bool true
  | 5 => .bool true
  | 6 => .pointer (some ⟨gx, 1, none⟩)
  | 7 => .int .i64 r.fu
  | 8 => .pointer (some ⟨gy, 1, none⟩)
  | 9 => .int .i64 r.fu
  | 10 => .bool true
  | 11 => .bool true
  | 12 => .bool true
  | 13 => .int .i64 r.er
  | 14 => .int .i64 r.er
  | 15 => .bool true
  | 16 => .bool true
  | 17 => .bool true
  | 18 => .int .i64 r.at_
  | 19 => .int .i64 r.at_
  | 20 => .bool true
  | 21 => .bool true
  | 22 => .bool true
  | 23 => frAgg f
  | 24 => .int .i64 (frErr f)
  | 25 => frAgg f
  | 26 => .int .i64 (frErr f)
  | 27 => .bool true
  | 28 => .bool true
  | 29 => .bool true
  | 30 => .slice A5 l.length c5
  | 31 => .slice A l.length c
  | 32 => .bool true
  | 33 => .bool true
  | 34 => .bool true
  | 35 => .bool true
  | 36 => .bool true
  | _ => .bool true
theorem jchRegion {Q : Exit → Act → World → Prop} (a0 : Act) (W0 : World) (hs : 68 < a0.tmps.size) (f : Ju.Fr) (l : List Ia.Ins) (A A5 : Option Addr) (c c5 gf gx gy : Nat) (r : Ju.Res) (hl : l.length ≤ 2000) (hA : InsAt W0 A l) (h5 : InsAt W0 A5 l) (hf0 : W0.heap[gf]? = some (.cells #[.int .i64 f.sl, .int .i64 f.ol, .int .i64 f.nw, .int .i64 f.is, .int .i64 f.os] 24 (0, 0))) (hx : W0.heap[gx]? = some (.cells #[.int .i64 r.dp, .int .i64 r.fu] 28 (0, 0))) (hy : W0.heap[gy]? = some (.cells #[.int .i64 r.dp, .int .i64 r.fu] 32 (0, 0)))
    (e0 : a0.eval (.tmp 0) = .slice A l.length c)
    (e5 : a0.eval (.tmp 5) = .slice A5 l.length c5)
    (e3 : a0.eval (.tmp 3) = .pointer (some ⟨gf, 0, none⟩))
    (e6 : a0.eval (.tmp 6) = .pointer (some ⟨gx, 0, none⟩))
    (e9 : a0.eval (.tmp 9) = .pointer (some ⟨gy, 0, none⟩))
    (e7 : a0.eval (.tmp 7) = .int .i64 r.er)
    (e10 : a0.eval (.tmp 10) = .int .i64 r.er)
    (e8 : a0.eval (.tmp 8) = .int .i64 r.at_)
    (e11 : a0.eval (.tmp 11) = .int .i64 r.at_)
    (hQ : ∀ w, Below W0.heap.size W0 w → Q .normal (jchSlots.foldl (fun x p => x.put (some p.2) ((jchVal f l A A5 c c5 gf gx gy r) p.1)) a0) w) :
    wpAny Try.prog .any jchOps Q 38 (Array.replicate 38 false) a0 W0.drew := by
  have ok : slotsFix jchSlots a0.tmps.size = true := by
    have : ∀ z, 68 < z → slotsFix jchSlots z = true := by
      intro z hz
      simp [slotsFix, jchSlots]
      omega
    exact this _ hs
  have lf : gf < W0.heap.size := (Array.getElem?_eq_some_iff.1 hf0).1
  have lx : gx < W0.heap.size := (Array.getElem?_eq_some_iff.1 hx).1
  have ly : gy < W0.heap.size := (Array.getElem?_eq_some_iff.1 hy).1
  refine region_fixed (by kernel_rfl) W0 a0 jchSlots (jchVal f l A A5 c c5 gf gx gy r) ok (by kernel_rfl) 38 (by kernel_rfl) ?_ hQ
  intro i L a w h hi hneed
  rcases (show i = 0 ∨ i = 1 ∨ i = 2 ∨ i = 3 ∨ i = 4 ∨ i = 5 ∨ i = 6 ∨ i = 7 ∨ i = 8 ∨ i = 9 ∨ i = 10 ∨ i = 11 ∨ i = 12 ∨ i = 13 ∨ i = 14 ∨ i = 15 ∨ i = 16 ∨ i = 17 ∨ i = 18 ∨ i = 19 ∨ i = 20 ∨ i = 21 ∨ i = 22 ∨ i = 23 ∨ i = 24 ∨ i = 25 ∨ i = 26 ∨ i = 27 ∨ i = 28 ∨ i = 29 ∨ i = 30 ∨ i = 31 ∨ i = 32 ∨ i = 33 ∨ i = 34 ∨ i = 35 ∨ i = 36 ∨ i = 37 by omega) with rfl | rfl | rfl | rfl | rfl | rfl | rfl | rfl | rfl | rfl | rfl | rfl | rfl | rfl | rfl | rfl | rfl | rfl | rfl | rfl | rfl | rfl | rfl | rfl | rfl | rfl | rfl | rfl | rfl | rfl | rfl | rfl | rfl | rfl | rfl | rfl | rfl | rfl
  · exact fix_value (i := 0) (d := 32) rfl (wanted_none rfl) rfl (by decide) (x_field rfl ((h.old rfl).trans e6) (by simp [go_sem]))
  · exact fix_value (i := 1) (d := 33) rfl (wanted_none rfl) rfl (by decide) (x_load rfl (h.get 0 32 (by decide) (hneed 0 (by kernel_rfl))) (by have hh := (h.below.block _ lx).trans hx; have hh0 : w.cell? ⟨gx, 0, none⟩ = some _ := cell_of_row w gx 0 _ _ (0, 0) hh; simp [go_sem, hh0]; rfl))
  · exact fix_value (i := 2) (d := 34) rfl (wanted_none rfl) rfl (by decide) (x_field rfl ((h.old rfl).trans e9) (by simp [go_sem]))
  · exact fix_value (i := 3) (d := 35) rfl (wanted_none rfl) rfl (by decide) (x_load rfl (h.get 2 34 (by decide) (hneed 2 (by kernel_rfl))) (by have hh := (h.below.block _ ly).trans hy; have hh0 : w.cell? ⟨gy, 0, none⟩ = some _ := cell_of_row w gy 0 _ _ (0, 0) hh; simp [go_sem, hh0]; rfl))
  · exact fix_value (i := 4) (d := 36) rfl (wanted_none rfl) rfl (by decide) (x_eql_true_int rfl (h.get 1 33 (by decide) (hneed 1 (by kernel_rfl))) (h.get 3 35 (by decide) (hneed 3 (by kernel_rfl))))
  · exact fix_value (i := 5) (d := 37) rfl (wanted_none rfl) rfl (by decide) (x_move rfl (h.get 4 36 (by decide) (hneed 4 (by kernel_rfl))))
  · exact fix_value (i := 6) (d := 38) rfl (wanted_some rfl rfl rfl (h.get 5 37 (by decide) (hneed 5 (by kernel_rfl)))) rfl (by decide) (x_field rfl ((h.old rfl).trans e6) (by simp [go_sem]))
  · exact fix_value (i := 7) (d := 39) rfl (wanted_some rfl rfl rfl (h.get 5 37 (by decide) (hneed 5 (by kernel_rfl)))) rfl (by decide) (x_load rfl (h.get 6 38 (by decide) (hneed 6 (by kernel_rfl))) (by have hh := (h.below.block _ lx).trans hx; have hh0 : w.cell? ⟨gx, 1, none⟩ = some _ := cell_of_row w gx 1 _ _ (0, 0) hh; simp [go_sem, hh0]; rfl))
  · exact fix_value (i := 8) (d := 40) rfl (wanted_some rfl rfl rfl (h.get 5 37 (by decide) (hneed 5 (by kernel_rfl)))) rfl (by decide) (x_field rfl ((h.old rfl).trans e9) (by simp [go_sem]))
  · exact fix_value (i := 9) (d := 41) rfl (wanted_some rfl rfl rfl (h.get 5 37 (by decide) (hneed 5 (by kernel_rfl)))) rfl (by decide) (x_load rfl (h.get 8 40 (by decide) (hneed 8 (by kernel_rfl))) (by have hh := (h.below.block _ ly).trans hy; have hh0 : w.cell? ⟨gy, 1, none⟩ = some _ := cell_of_row w gy 1 _ _ (0, 0) hh; simp [go_sem, hh0]; rfl))
  · exact fix_value (i := 10) (d := 42) rfl (wanted_some rfl rfl rfl (h.get 5 37 (by decide) (hneed 5 (by kernel_rfl)))) rfl (by decide) (x_eql_true_int rfl (h.get 7 39 (by decide) (hneed 7 (by kernel_rfl))) (h.get 9 41 (by decide) (hneed 9 (by kernel_rfl))))
  · exact fix_value (i := 11) (d := 43) rfl (wanted_none rfl) rfl (by decide) (x_pick_t rfl (h.get 5 37 (by decide) (hneed 5 (by kernel_rfl))) (h.get 10 42 (by decide) (hneed 10 (by kernel_rfl))))
  · exact fix_value (i := 12) (d := 44) rfl (wanted_none rfl) rfl (by decide) (x_move rfl (h.get 11 43 (by decide) (hneed 11 (by kernel_rfl))))
  · exact fix_value (i := 13) (d := 45) rfl (wanted_some rfl rfl rfl (h.get 12 44 (by decide) (hneed 12 (by kernel_rfl)))) rfl (by decide) (x_move rfl ((h.old rfl).trans e7))
  · exact fix_value (i := 14) (d := 46) rfl (wanted_some rfl rfl rfl (h.get 12 44 (by decide) (hneed 12 (by kernel_rfl)))) rfl (by decide) (x_move rfl ((h.old rfl).trans e10))
  · exact fix_value (i := 15) (d := 47) rfl (wanted_some rfl rfl rfl (h.get 12 44 (by decide) (hneed 12 (by kernel_rfl)))) rfl (by decide) (x_eql_true_int rfl (h.get 13 45 (by decide) (hneed 13 (by kernel_rfl))) (h.get 14 46 (by decide) (hneed 14 (by kernel_rfl))))
  · exact fix_value (i := 16) (d := 48) rfl (wanted_none rfl) rfl (by decide) (x_pick_t rfl (h.get 12 44 (by decide) (hneed 12 (by kernel_rfl))) (h.get 15 47 (by decide) (hneed 15 (by kernel_rfl))))
  · exact fix_value (i := 17) (d := 49) rfl (wanted_none rfl) rfl (by decide) (x_move rfl (h.get 16 48 (by decide) (hneed 16 (by kernel_rfl))))
  · exact fix_value (i := 18) (d := 50) rfl (wanted_some rfl rfl rfl (h.get 17 49 (by decide) (hneed 17 (by kernel_rfl)))) rfl (by decide) (x_move rfl ((h.old rfl).trans e8))
  · exact fix_value (i := 19) (d := 51) rfl (wanted_some rfl rfl rfl (h.get 17 49 (by decide) (hneed 17 (by kernel_rfl)))) rfl (by decide) (x_move rfl ((h.old rfl).trans e11))
  · exact fix_value (i := 20) (d := 52) rfl (wanted_some rfl rfl rfl (h.get 17 49 (by decide) (hneed 17 (by kernel_rfl)))) rfl (by decide) (x_eql_true_int rfl (h.get 18 50 (by decide) (hneed 18 (by kernel_rfl))) (h.get 19 51 (by decide) (hneed 19 (by kernel_rfl))))
  · exact fix_value (i := 21) (d := 53) rfl (wanted_none rfl) rfl (by decide) (x_pick_t rfl (h.get 17 49 (by decide) (hneed 17 (by kernel_rfl))) (h.get 20 52 (by decide) (hneed 20 (by kernel_rfl))))
  · exact fix_value (i := 22) (d := 54) rfl (wanted_none rfl) rfl (by decide) (x_move rfl (h.get 21 53 (by decide) (hneed 21 (by kernel_rfl))))
  · exact fix_value (i := 23) (d := 55) rfl (wanted_some rfl rfl rfl (h.get 22 54 (by decide) (hneed 22 (by kernel_rfl)))) rfl (by decide) (x_load_row (cs := [.int .i64 f.sl, .int .i64 f.ol, .int .i64 f.nw, .int .i64 f.is, .int .i64 f.os]) (n := 5) rfl ((h.old rfl).trans e3) ((h.below.block _ lf).trans hf0) Try.underlying24 rfl (by kernel_rfl) rfl)
  · refine fix_call (i := 24) (d := 56) 12 Try.f12 #[.tmp 55] _ #[frAgg f] rfl (wanted_some rfl rfl rfl (h.get 22 54 (by decide) (hneed 22 (by kernel_rfl)))) rfl (by decide) rfl (by simp [(h.get 23 55 (by decide) (hneed 23 (by kernel_rfl))), jchVal]) Try.func12 (by kernel_rfl) (by kernel_rfl) ?_
    exact jframe f w
  · exact fix_value (i := 25) (d := 57) rfl (wanted_some rfl rfl rfl (h.get 22 54 (by decide) (hneed 22 (by kernel_rfl)))) rfl (by decide) (x_load_row (cs := [.int .i64 f.sl, .int .i64 f.ol, .int .i64 f.nw, .int .i64 f.is, .int .i64 f.os]) (n := 5) rfl ((h.old rfl).trans e3) ((h.below.block _ lf).trans hf0) Try.underlying24 rfl (by kernel_rfl) rfl)
  · refine fix_call (i := 26) (d := 58) 13 Try.f13 #[.tmp 57] _ #[frAgg f] rfl (wanted_some rfl rfl rfl (h.get 22 54 (by decide) (hneed 22 (by kernel_rfl)))) rfl (by decide) rfl (by simp [(h.get 25 57 (by decide) (hneed 25 (by kernel_rfl))), jchVal]) Try.func13 (by kernel_rfl) (by kernel_rfl) ?_
    exact refframe f w
  · exact fix_value (i := 27) (d := 59) rfl (wanted_some rfl rfl rfl (h.get 22 54 (by decide) (hneed 22 (by kernel_rfl)))) rfl (by decide) (x_eql_true_int rfl (h.get 24 56 (by decide) (hneed 24 (by kernel_rfl))) (h.get 26 58 (by decide) (hneed 26 (by kernel_rfl))))
  · exact fix_value (i := 28) (d := 60) rfl (wanted_none rfl) rfl (by decide) (x_pick_t rfl (h.get 22 54 (by decide) (hneed 22 (by kernel_rfl))) (h.get 27 59 (by decide) (hneed 27 (by kernel_rfl))))
  · exact fix_value (i := 29) (d := 61) rfl (wanted_none rfl) rfl (by decide) (x_move rfl (h.get 28 60 (by decide) (hneed 28 (by kernel_rfl))))
  · exact fix_value (i := 30) (d := 62) rfl (wanted_some rfl rfl rfl (h.get 29 61 (by decide) (hneed 29 (by kernel_rfl)))) rfl (by decide) (x_move rfl ((h.old rfl).trans e5))
  · exact fix_value (i := 31) (d := 63) rfl (wanted_some rfl rfl rfl (h.get 29 61 (by decide) (hneed 29 (by kernel_rfl)))) rfl (by decide) (x_move rfl ((h.old rfl).trans e0))
  · refine fix_call (i := 32) (d := 64) 14 Try.f14 #[.tmp 62, .tmp 63] _ #[.slice A5 l.length c5, .slice A l.length c] rfl (wanted_some rfl rfl rfl (h.get 29 61 (by decide) (hneed 29 (by kernel_rfl)))) rfl (by decide) rfl (by simp [(h.get 30 62 (by decide) (hneed 30 (by kernel_rfl))), (h.get 31 63 (by decide) (hneed 31 (by kernel_rfl))), jchVal]) Try.func14 (by kernel_rfl) (by kernel_rfl) ?_
    exact (insame l A5 A c5 c w (h5.below h.below (Nat.le_refl _)) (hA.below h.below (Nat.le_refl _)) (by omega)).mono (fun e w' ⟨he, n, hw⟩ => ⟨he, hw ▸ below_drewN (Below.refl _ _) n⟩)
  · exact fix_value (i := 33) (d := 65) rfl (wanted_none rfl) rfl (by decide) (x_pick_t rfl (h.get 29 61 (by decide) (hneed 29 (by kernel_rfl))) (h.get 32 64 (by decide) (hneed 32 (by kernel_rfl))))
  · exact fix_value (i := 34) (d := 66) rfl (wanted_none rfl) rfl (by decide) (x_move rfl (h.get 33 65 (by decide) (hneed 33 (by kernel_rfl))))
  · refine fix_call (i := 35) (d := 67) 8 Try.f8 #[] _ #[] rfl (wanted_some rfl rfl rfl (h.get 34 66 (by decide) (hneed 34 (by kernel_rfl)))) rfl (by decide) rfl (by simp) Try.func8 (by kernel_rfl) (by kernel_rfl) ?_
    exact known_any w
  · exact fix_value (i := 36) (d := 68) rfl (wanted_none rfl) rfl (by decide) (x_pick_t rfl (h.get 34 66 (by decide) (hneed 34 (by kernel_rfl))) (h.get 35 67 (by decide) (hneed 35 (by kernel_rfl))))
  · exact fix_value (i := 37) (d := 4) rfl (wanted_none rfl) rfl (by decide) (x_assign rfl (h.get 36 68 (by decide) (hneed 36 (by kernel_rfl))))
end Go.Proofs.Ytlfbpcjeohbfkaa
