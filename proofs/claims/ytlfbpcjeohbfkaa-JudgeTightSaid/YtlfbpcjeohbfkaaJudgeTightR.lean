/-
  A drawn statement of JudgeTight, whatever the order.
-/
import Derived.Test.YtlfbpcjeohbfkaaJuI
import Derived.Test.YtlfbpcjeohbfkaaJuX
import Derived.Test.YtlfbpcjeohbfkaaRegFix
namespace Go.Proofs.Ytlfbpcjeohbfkaa
open Go.RowKit Mem

set_option linter.unusedVariables false
noncomputable def jtgOps : Array Oper := findOps 23 ((Try.f7).body.getD (.exit 0))
def jtgSlots : List (Nat × Nat) := [(0, 87), (1, 88), (2, 89), (3, 90), (4, 91), (5, 92), (6, 93), (7, 94), (8, 95), (9, 4)]
def jtgVal (gm n gr : Nat) (m0 : Int) : Nat → Value
  | 0 => .slice (some ⟨gm, 0, none⟩) (n + 1) (n + 1)
  | 1 => .pointer (some ⟨gm, 0, none⟩)
  | 2 => .int .i64 m0
  | 3 => .pointer (some ⟨gr, 1, none⟩)
  | 4 => .int .i64 m0
  | 5 => .bool true
  | 6 => .bool true
  | 7 => .bool true
  | 8 => .bool true
  | _ => .bool true
theorem jtgRegion {Q : Exit → Act → World → Prop} (a0 : Act) (W0 : World) (hs : 95 < a0.tmps.size) (gm n gr : Nat) (m0 dp : Int) (hm : W0.cell? ⟨gm, 0, none⟩ = some (.int .i64 m0)) (hr : W0.heap[gr]? = some (.cells #[.int .i64 dp, .int .i64 m0] 28 (0, 0)))
    (e5 : a0.eval (.tmp 5) = .pointer (some ⟨gr, 0, none⟩))
    (e9 : a0.eval (.tmp 9) = .slice (some ⟨gm, 0, none⟩) (n + 1) (n + 1))
    (hQ : ∀ w, Below W0.heap.size W0 w → Q .normal (jtgSlots.foldl (fun x p => x.put (some p.2) ((jtgVal gm n gr m0) p.1)) a0) w) :
    wpAny Try.prog .any jtgOps Q 10 (Array.replicate 10 false) a0 W0.drew := by
  have ok : slotsFix jtgSlots a0.tmps.size = true := by
    have : ∀ z, 95 < z → slotsFix jtgSlots z = true := by
      intro z hz
      simp [slotsFix, jtgSlots]
      omega
    exact this _ hs
  have lm : gm < W0.heap.size := World.block_lt_of_cell? _ _ hm
  have lr : gr < W0.heap.size := (Array.getElem?_eq_some_iff.1 hr).1
  refine region_fixed (by kernel_rfl) W0 a0 jtgSlots (jtgVal gm n gr m0) ok (by kernel_rfl) 10 (by kernel_rfl) ?_ hQ
  intro i L a w h hi hneed
  rcases (show i = 0 ∨ i = 1 ∨ i = 2 ∨ i = 3 ∨ i = 4 ∨ i = 5 ∨ i = 6 ∨ i = 7 ∨ i = 8 ∨ i = 9 by omega) with rfl | rfl | rfl | rfl | rfl | rfl | rfl | rfl | rfl | rfl
  · exact fix_value (i := 0) (d := 87) rfl (wanted_none rfl) rfl (by decide) (x_move rfl ((h.old rfl).trans e9))
  · exact fix_value (i := 1) (d := 88) rfl (wanted_none rfl) rfl (by decide) (x_index rfl (h.get 0 87 (by decide) (hneed 0 (by kernel_rfl))) rfl (by show (Instr.indexAt 46 (.slice (some ⟨gm, 0, none⟩) (n + 1) (n + 1)) (.int .i64 0)).run Try.prog w = .ok (.pointer (some ⟨gm, 0, none⟩)) w; have r0 : (0 : Int) < (n : Int) + 1 := (by omega); simp [go_sem, r0]))
  · exact fix_value (i := 2) (d := 89) rfl (wanted_none rfl) rfl (by decide) (x_load rfl (h.get 1 88 (by decide) (hneed 1 (by kernel_rfl))) (by have y0 := (h.below.cell (p := ⟨gm, 0, none⟩) lm).trans hm; simp [go_sem, y0]; rfl))
  · exact fix_value (i := 3) (d := 90) rfl (wanted_none rfl) rfl (by decide) (x_field rfl ((h.old rfl).trans e5) (by simp [go_sem]))
  · exact fix_value (i := 4) (d := 91) rfl (wanted_none rfl) rfl (by decide) (x_load rfl (h.get 3 90 (by decide) (hneed 3 (by kernel_rfl))) (by have hh := (h.below.block _ lr).trans hr; have hh0 : w.cell? ⟨gr, 1, none⟩ = some (.int .i64 m0) := cell_of_row w gr 1 _ _ (0, 0) hh; simp [go_sem, hh0]; rfl))
  · exact fix_value (i := 5) (d := 92) rfl (wanted_none rfl) rfl (by decide) (x_eql_true_int rfl (h.get 2 89 (by decide) (hneed 2 (by kernel_rfl))) (h.get 4 91 (by decide) (hneed 4 (by kernel_rfl))))
  · exact fix_value (i := 6) (d := 93) rfl (wanted_none rfl) rfl (by decide) (x_move rfl (h.get 5 92 (by decide) (hneed 5 (by kernel_rfl))))
  · refine fix_call (i := 7) (d := 94) 8 Try.f8 #[] _ #[] rfl (wanted_some rfl rfl rfl (h.get 6 93 (by decide) (hneed 6 (by kernel_rfl)))) rfl (by decide) rfl (by simp) Try.func8 (by kernel_rfl) (by kernel_rfl) ?_
    exact known_any w
  · exact fix_value (i := 8) (d := 95) rfl (wanted_none rfl) rfl (by decide) (x_pick_t rfl (h.get 6 93 (by decide) (hneed 6 (by kernel_rfl))) (h.get 7 94 (by decide) (hneed 7 (by kernel_rfl))))
  · exact fix_value (i := 9) (d := 4) rfl (wanted_none rfl) rfl (by decide) (x_assign rfl (h.get 8 95 (by decide) (hneed 8 (by kernel_rfl))))
end Go.Proofs.Ytlfbpcjeohbfkaa
