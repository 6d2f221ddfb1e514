/-
  The drawn statement of the law ShaTexts, whatever the order.
-/
import Derived.Test.YtjglboejgmplgaaShaU
import Derived.Test.YtjglboejgmplgaaArrEq
import Derived.Test.YtjglboejgmplgaaRegFix
namespace Go.Proofs.Ytjglboejgmplgaa
open Go.RowKit Mem

set_option linter.unusedVariables false
noncomputable def textsOps : Array Oper := findOps 6 ((Try.f6).body.getD (.exit 0))
def textsSlots : List (Nat × Nat) := [(0, 31), (1, 32), (2, 33), (3, 34), (4, 35), (5, 36), (6, 37), (7, 38), (8, 39), (9, 40), (10, 41), (11, 42), (12, 43), (13, 44), (14, 45), (15, 46), (16, 47), (17, 48), (18, 49), (19, 50), (20, 51), (21, 52), (22, 53), (23, 54), (24, 55), (25, 56), (26, 57), (27, 4)]
def textsVal (dl xl hx : List UInt8) (xe : Int) : Nat → Value
  | 0 => .agg (bcells dl).toArray
  | 1 => .string ⟨hx.toArray⟩
  | 2 => .agg (bcells dl).toArray
  | 3 => .string ⟨hx.toArray⟩
  | 4 => .bool true
  | 5 => .bool true
  | 6 => .agg (bcells xl).toArray
  | 7 => .agg (bcells xl).toArray
  | 8 => .bool true
  | 9 => .bool true
  | 10 => .bool true
  | 11 => .int .i64 xe
  | 12 => .int .i64 xe
  | 13 => .bool true
  | 14 => .bool true
  | 15 => .bool true
  | 16 => .agg (bcells dl).toArray
  | 17 => .agg (bcells dl).toArray
  | 18 => .bool true
  | 19 => .bool true
  | 20 => .bool true
  | 21 => .int .i64 0
  | 22 => .bool true
  | 23 => .bool true
  | 24 => .bool true
  | 25 => .bool true
  | 26 => .bool true
  | _ => .bool true
theorem textsRegion {Q : Exit → Act → World → Prop} (a0 : Act) (W0 : World) (hs : 57 < a0.tmps.size) (dl xl hx : List UInt8) (xe : Int) (g2 g5 g7 g9 : Nat) (hdl : dl.length = 32) (hxl : xl.length = 32) (hhx : hexL dl = hx) (h2 : W0.heap[g2]? = some (.cells (bcells dl).toArray 37 (0, 0))) (h5 : W0.heap[g5]? = some (.cells (bcells xl).toArray 37 (0, 0))) (h7 : W0.heap[g7]? = some (.cells (bcells xl).toArray 37 (0, 0))) (h9 : W0.heap[g9]? = some (.cells (bcells dl).toArray 37 (0, 0)))
    (e2 : a0.eval (.tmp 2) = .pointer (some ⟨g2, 0, none⟩))
    (e5 : a0.eval (.tmp 5) = .pointer (some ⟨g5, 0, none⟩))
    (e7 : a0.eval (.tmp 7) = .pointer (some ⟨g7, 0, none⟩))
    (e9 : a0.eval (.tmp 9) = .pointer (some ⟨g9, 0, none⟩))
    (e6 : a0.eval (.tmp 6) = .int .i64 xe)
    (e8 : a0.eval (.tmp 8) = .int .i64 xe)
    (e10 : a0.eval (.tmp 10) = .int .i64 0)
    (hQ : ∀ w, Below W0.heap.size W0 w → Q .normal (textsSlots.foldl (fun x p => x.put (some p.2) ((textsVal dl xl hx xe) p.1)) a0) w) :
    wpAny Try.prog .any textsOps Q 28 (Array.replicate 28 false) a0 W0.drew := by
  have ok : slotsFix textsSlots a0.tmps.size = true := by
    have : ∀ z, 57 < z → slotsFix textsSlots z = true := by
      intro z hz
      simp [slotsFix, textsSlots]
      omega
    exact this _ hs
  have hi32 : (Try.prog.info? 37).map (·.size) = some 32 := by kernel_rfl
  have lt2 := lt_heap h2
  have lt5 := lt_heap h5
  have lt7 := lt_heap h7
  have lt9 := lt_heap h9
  have heqd : ∀ w, (binOp .eql 37 (.agg (bcells dl).toArray) (.agg (bcells dl).toArray)).run Try.prog w = .ok (.bool true) w := fun w => by rw [eql32 dl dl hdl hdl w]; simp
  have heqx : ∀ w, (binOp .eql 37 (.agg (bcells xl).toArray) (.agg (bcells xl).toArray)).run Try.prog w = .ok (.bool true) w := fun w => by rw [eql32 xl xl hxl hxl w]; simp
  refine region_fixed (by kernel_rfl) W0 a0 textsSlots (textsVal dl xl hx xe) ok (by kernel_rfl) 28 (by kernel_rfl) ?_ hQ
  intro i L a w h hi hneed
  rcases (show i = 0 ∨ i = 1 ∨ i = 2 ∨ i = 3 ∨ i = 4 ∨ i = 5 ∨ i = 6 ∨ i = 7 ∨ i = 8 ∨ i = 9 ∨ i = 10 ∨ i = 11 ∨ i = 12 ∨ i = 13 ∨ i = 14 ∨ i = 15 ∨ i = 16 ∨ i = 17 ∨ i = 18 ∨ i = 19 ∨ i = 20 ∨ i = 21 ∨ i = 22 ∨ i = 23 ∨ i = 24 ∨ i = 25 ∨ i = 26 ∨ i = 27 by omega) with rfl | rfl | rfl | rfl | rfl | rfl | rfl | rfl | rfl | rfl | rfl | rfl | rfl | rfl | rfl | rfl | rfl | rfl | rfl | rfl | rfl | rfl | rfl | rfl | rfl | rfl | rfl | rfl
  · exact fix_value (i := 0) (d := 31) rfl (wanted_none rfl) rfl (by decide) (x_load_row (d := .array 32 5) rfl ((h.old rfl).trans e2) ((h.below.block _ lt2).trans h2) (by kernel_rfl) rfl hi32 (by rw [bcells_length, hdl]))
  · refine fix_call (i := 1) (d := 32) 23 Try.f23 #[.tmp 31] _ #[.agg (bcells dl).toArray] rfl (wanted_none rfl) rfl (by decide) rfl (by simp [(h.get 0 31 (by decide) (hneed 0 (by kernel_rfl))), textsVal]) Try.func23 (by kernel_rfl) (by kernel_rfl) ?_
    (have hc := shahex dl w hdl; rw [hhx] at hc; exact hc)
  · exact fix_value (i := 2) (d := 33) rfl (wanted_none rfl) rfl (by decide) (x_load_row (d := .array 32 5) rfl ((h.old rfl).trans e2) ((h.below.block _ lt2).trans h2) (by kernel_rfl) rfl hi32 (by rw [bcells_length, hdl]))
  · refine fix_call (i := 3) (d := 34) 24 Try.f24 #[.tmp 33] _ #[.agg (bcells dl).toArray] rfl (wanted_none rfl) rfl (by decide) rfl (by simp [(h.get 2 33 (by decide) (hneed 2 (by kernel_rfl))), textsVal]) Try.func24 (by kernel_rfl) (by kernel_rfl) ?_
    (have hc := refhex dl w hdl; rw [hhx] at hc; exact hc)
  · exact fix_value (i := 4) (d := 35) rfl (wanted_none rfl) rfl (by decide) (x_eql_true_str rfl (h.get 1 32 (by decide) (hneed 1 (by kernel_rfl))) (h.get 3 34 (by decide) (hneed 3 (by kernel_rfl))))
  · exact fix_value (i := 5) (d := 36) rfl (wanted_none rfl) rfl (by decide) (x_move rfl (h.get 4 35 (by decide) (hneed 4 (by kernel_rfl))))
  · exact fix_value (i := 6) (d := 37) rfl (wanted_some rfl rfl rfl (h.get 5 36 (by decide) (hneed 5 (by kernel_rfl)))) rfl (by decide) (x_load_row (d := .array 32 5) rfl ((h.old rfl).trans e5) ((h.below.block _ lt5).trans h5) (by kernel_rfl) rfl hi32 (by rw [bcells_length, hxl]))
  · exact fix_value (i := 7) (d := 38) rfl (wanted_some rfl rfl rfl (h.get 5 36 (by decide) (hneed 5 (by kernel_rfl)))) rfl (by decide) (x_load_row (d := .array 32 5) rfl ((h.old rfl).trans e7) ((h.below.block _ lt7).trans h7) (by kernel_rfl) rfl hi32 (by rw [bcells_length, hxl]))
  · exact fix_value (i := 8) (d := 39) rfl (wanted_some rfl rfl rfl (h.get 5 36 (by decide) (hneed 5 (by kernel_rfl)))) rfl (by decide) (x_eql_agg rfl (h.get 6 37 (by decide) (hneed 6 (by kernel_rfl))) (h.get 7 38 (by decide) (hneed 7 (by kernel_rfl))) (by kernel_rfl) (heqx w))
  · exact fix_value (i := 9) (d := 40) rfl (wanted_none rfl) rfl (by decide) (x_pick_t rfl (h.get 5 36 (by decide) (hneed 5 (by kernel_rfl))) (h.get 8 39 (by decide) (hneed 8 (by kernel_rfl))))
  · exact fix_value (i := 10) (d := 41) rfl (wanted_none rfl) rfl (by decide) (x_move rfl (h.get 9 40 (by decide) (hneed 9 (by kernel_rfl))))
  · exact fix_value (i := 11) (d := 42) rfl (wanted_some rfl rfl rfl (h.get 10 41 (by decide) (hneed 10 (by kernel_rfl)))) rfl (by decide) (x_move rfl ((h.old rfl).trans e6))
  · exact fix_value (i := 12) (d := 43) rfl (wanted_some rfl rfl rfl (h.get 10 41 (by decide) (hneed 10 (by kernel_rfl)))) rfl (by decide) (x_move rfl ((h.old rfl).trans e8))
  · exact fix_value (i := 13) (d := 44) rfl (wanted_some rfl rfl rfl (h.get 10 41 (by decide) (hneed 10 (by kernel_rfl)))) rfl (by decide) (x_eql_true_int rfl (h.get 11 42 (by decide) (hneed 11 (by kernel_rfl))) (h.get 12 43 (by decide) (hneed 12 (by kernel_rfl))))
  · exact fix_value (i := 14) (d := 45) rfl (wanted_none rfl) rfl (by decide) (x_pick_t rfl (h.get 10 41 (by decide) (hneed 10 (by kernel_rfl))) (h.get 13 44 (by decide) (hneed 13 (by kernel_rfl))))
  · exact fix_value (i := 15) (d := 46) rfl (wanted_none rfl) rfl (by decide) (x_move rfl (h.get 14 45 (by decide) (hneed 14 (by kernel_rfl))))
  · exact fix_value (i := 16) (d := 47) rfl (wanted_some rfl rfl rfl (h.get 15 46 (by decide) (hneed 15 (by kernel_rfl)))) rfl (by decide) (x_load_row (d := .array 32 5) rfl ((h.old rfl).trans e9) ((h.below.block _ lt9).trans h9) (by kernel_rfl) rfl hi32 (by rw [bcells_length, hdl]))
  · exact fix_value (i := 17) (d := 48) rfl (wanted_some rfl rfl rfl (h.get 15 46 (by decide) (hneed 15 (by kernel_rfl)))) rfl (by decide) (x_load_row (d := .array 32 5) rfl ((h.old rfl).trans e2) ((h.below.block _ lt2).trans h2) (by kernel_rfl) rfl hi32 (by rw [bcells_length, hdl]))
  · exact fix_value (i := 18) (d := 49) rfl (wanted_some rfl rfl rfl (h.get 15 46 (by decide) (hneed 15 (by kernel_rfl)))) rfl (by decide) (x_eql_agg rfl (h.get 16 47 (by decide) (hneed 16 (by kernel_rfl))) (h.get 17 48 (by decide) (hneed 17 (by kernel_rfl))) (by kernel_rfl) (heqd w))
  · exact fix_value (i := 19) (d := 50) rfl (wanted_none rfl) rfl (by decide) (x_pick_t rfl (h.get 15 46 (by decide) (hneed 15 (by kernel_rfl))) (h.get 18 49 (by decide) (hneed 18 (by kernel_rfl))))
  · exact fix_value (i := 20) (d := 51) rfl (wanted_none rfl) rfl (by decide) (x_move rfl (h.get 19 50 (by decide) (hneed 19 (by kernel_rfl))))
  · exact fix_value (i := 21) (d := 52) rfl (wanted_some rfl rfl rfl (h.get 20 51 (by decide) (hneed 20 (by kernel_rfl)))) rfl (by decide) (x_move rfl ((h.old rfl).trans e10))
  · exact fix_value (i := 22) (d := 53) rfl (wanted_some rfl rfl rfl (h.get 20 51 (by decide) (hneed 20 (by kernel_rfl)))) rfl (by decide) (x_eql_true_int rfl (h.get 21 52 (by decide) (hneed 21 (by kernel_rfl))) rfl)
  · exact fix_value (i := 23) (d := 54) rfl (wanted_none rfl) rfl (by decide) (x_pick_t rfl (h.get 20 51 (by decide) (hneed 20 (by kernel_rfl))) (h.get 22 53 (by decide) (hneed 22 (by kernel_rfl))))
  · exact fix_value (i := 24) (d := 55) rfl (wanted_none rfl) rfl (by decide) (x_move rfl (h.get 23 54 (by decide) (hneed 23 (by kernel_rfl))))
  · refine fix_call (i := 25) (d := 56) 9 Try.f9 #[] _ #[] rfl (wanted_some rfl rfl rfl (h.get 24 55 (by decide) (hneed 24 (by kernel_rfl)))) rfl (by decide) rfl (by simp) Try.func9 (by kernel_rfl) (by kernel_rfl) ?_
    exact known_any w
  · exact fix_value (i := 26) (d := 57) rfl (wanted_none rfl) rfl (by decide) (x_pick_t rfl (h.get 24 55 (by decide) (hneed 24 (by kernel_rfl))) (h.get 25 56 (by decide) (hneed 25 (by kernel_rfl))))
  · exact fix_value (i := 27) (d := 4) rfl (wanted_none rfl) rfl (by decide) (x_assign rfl (h.get 26 57 (by decide) (hneed 26 (by kernel_rfl))))
end Go.Proofs.Ytjglboejgmplgaa
