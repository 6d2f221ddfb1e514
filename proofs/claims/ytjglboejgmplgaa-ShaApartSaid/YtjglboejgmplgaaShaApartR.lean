/-
  The drawn statement of the law ShaApart, whatever the order.
-/
import Derived.Test.YtjglboejgmplgaaShaK
import Derived.Test.YtjglboejgmplgaaArrEq
import Derived.Test.YtjglboejgmplgaaRegFix
namespace Go.Proofs.Ytjglboejgmplgaa
open Go.RowKit Mem

set_option linter.unusedVariables false
noncomputable def apartOps : Array Oper := findOps 8 ((Try.f8).body.getD (.exit 0))
def apartSlots : List (Nat × Nat) := [(0, 32), (1, 33), (2, 34), (3, 35), (4, 36), (5, 37), (6, 38), (7, 39), (8, 40), (9, 41), (10, 42), (11, 43), (12, 44), (13, 45), (14, 46), (15, 47), (16, 4)]
def apartVal (b D : List UInt8) (A A2 A3 : Option Addr) (c c2 n2 : Nat) : Nat → Value
  | 0 => .agg (bcells D).toArray
  | 1 => .slice A b.length c
  | 2 => .agg (bcells D).toArray
  | 3 => .bool true
  | 4 => .bool true
  | 5 => .agg (bcells D).toArray
  | 6 => .slice A2 n2 c2
  | 7 => .slice A b.length c
  | 8 => .int .i64 (b.length : Int)
  | 9 => .slice A3 b.length c2
  | 10 => .agg (bcells D).toArray
  | 11 => .bool true
  | 12 => .bool true
  | 13 => .bool true
  | 14 => .bool true
  | 15 => .bool true
  | _ => .bool true
theorem apartRegion {Q : Exit → Act → World → Prop} (a0 : Act) (W0 : World) (hs : 47 < a0.tmps.size) (b D : List UInt8) (A A2 A3 : Option Addr) (c c2 n2 g : Nat) (hb0 : BSrc W0 A c b) (hb1 : b.length ≤ c) (hc : c ≤ 9223372036854775807) (hb3 : BSrc W0 A3 c2 b) (hb4 : b.length ≤ c2) (hc2 : c2 ≤ 9223372036854775807) (hbl : b.length ≤ 140737488351232) (hD : sumOf b = D) (hr : W0.heap[g]? = some (.cells (bcells D).toArray 37 (0, 0))) (hsl : ∀ wx, (Instr.slice 24 (.slice A2 n2 c2) none (some (.int .i64 (b.length : Int))) none).run Try.prog wx = .ok (.slice A3 b.length c2) wx)
    (e0 : a0.eval (.tmp 0) = .slice A b.length c)
    (e5 : a0.eval (.tmp 5) = .slice A2 n2 c2)
    (e6 : a0.eval (.tmp 6) = .pointer (some ⟨g, 0, none⟩))
    (hQ : ∀ w, Below W0.heap.size W0 w → Q .normal (apartSlots.foldl (fun x p => x.put (some p.2) ((apartVal b D A A2 A3 c c2 n2) p.1)) a0) w) :
    wpAny Try.prog .any apartOps Q 17 (Array.replicate 17 false) a0 W0.drew := by
  have ok : slotsFix apartSlots a0.tmps.size = true := by
    have : ∀ z, 47 < z → slotsFix apartSlots z = true := by
      intro z hz
      simp [slotsFix, apartSlots]
      omega
    exact this _ hs
  have hDl : D.length = 32 := by rw [← hD]; exact sumOf_len b
  have hi32 : (Try.prog.info? 37).map (·.size) = some 32 := by kernel_rfl
  have hgl : g < W0.heap.size := (Array.getElem?_eq_some_iff.1 hr).1
  have heq : ∀ w, (binOp .eql 37 (.agg (bcells D).toArray) (.agg (bcells D).toArray)).run Try.prog w = .ok (.bool true) w := fun w => by rw [eql32 D D hDl hDl w]; simp
  refine region_fixed (by kernel_rfl) W0 a0 apartSlots (apartVal b D A A2 A3 c c2 n2) ok (by kernel_rfl) 17 (by kernel_rfl) ?_ hQ
  intro i L a w h hi hneed
  rcases (show i = 0 ∨ i = 1 ∨ i = 2 ∨ i = 3 ∨ i = 4 ∨ i = 5 ∨ i = 6 ∨ i = 7 ∨ i = 8 ∨ i = 9 ∨ i = 10 ∨ i = 11 ∨ i = 12 ∨ i = 13 ∨ i = 14 ∨ i = 15 ∨ i = 16 by omega) with rfl | rfl | rfl | rfl | rfl | rfl | rfl | rfl | rfl | rfl | rfl | rfl | rfl | rfl | rfl | rfl | rfl
  · exact fix_value (i := 0) (d := 32) rfl (wanted_none rfl) rfl (by decide) (x_load_row (d := .array 32 5) rfl ((h.old rfl).trans e6) ((h.below.block _ hgl).trans hr) (by kernel_rfl) rfl hi32 (by rw [bcells_length, hDl]))
  · exact fix_value (i := 1) (d := 33) rfl (wanted_none rfl) rfl (by decide) (x_move rfl ((h.old rfl).trans e0))
  · refine fix_call (i := 2) (d := 34) 19 Try.f19 #[.tmp 33] _ #[.slice A b.length c] rfl (wanted_none rfl) rfl (by decide) rfl (by simp [(h.get 1 33 (by decide) (hneed 1 (by kernel_rfl))), apartVal]) Try.func19 (by kernel_rfl) (by kernel_rfl) ?_
    (have hc := shasum shastep_ok b A c w (hb0.below h.below (Nat.le_refl _)) hb1 hbl hc; rw [hD] at hc; exact hc)
  · exact fix_value (i := 3) (d := 35) rfl (wanted_none rfl) rfl (by decide) (x_eql_agg rfl (h.get 0 32 (by decide) (hneed 0 (by kernel_rfl))) (h.get 2 34 (by decide) (hneed 2 (by kernel_rfl))) (by kernel_rfl) (heq w))
  · exact fix_value (i := 4) (d := 36) rfl (wanted_none rfl) rfl (by decide) (x_move rfl (h.get 3 35 (by decide) (hneed 3 (by kernel_rfl))))
  · exact fix_value (i := 5) (d := 37) rfl (wanted_some rfl rfl rfl (h.get 4 36 (by decide) (hneed 4 (by kernel_rfl)))) rfl (by decide) (x_load_row (d := .array 32 5) rfl ((h.old rfl).trans e6) ((h.below.block _ hgl).trans hr) (by kernel_rfl) rfl hi32 (by rw [bcells_length, hDl]))
  · exact fix_value (i := 6) (d := 38) rfl (wanted_some rfl rfl rfl (h.get 4 36 (by decide) (hneed 4 (by kernel_rfl)))) rfl (by decide) (x_move rfl ((h.old rfl).trans e5))
  · exact fix_value (i := 7) (d := 39) rfl (wanted_some rfl rfl rfl (h.get 4 36 (by decide) (hneed 4 (by kernel_rfl)))) rfl (by decide) (x_move rfl ((h.old rfl).trans e0))
  · exact fix_value (i := 8) (d := 40) rfl (wanted_some rfl rfl rfl (h.get 4 36 (by decide) (hneed 4 (by kernel_rfl)))) rfl (by decide) (x_len rfl Try.underlying24 (h.get 7 39 (by decide) (hneed 7 (by kernel_rfl))))
  · exact fix_value (i := 9) (d := 41) rfl (wanted_some rfl rfl rfl (h.get 4 36 (by decide) (hneed 4 (by kernel_rfl)))) rfl (by decide) (x_slice rfl (by kernel_rfl) (h.get 6 38 (by decide) (hneed 6 (by kernel_rfl))) rfl (congrArg some (h.get 8 40 (by decide) (hneed 8 (by kernel_rfl)))) (hsl w))
  · refine fix_call (i := 10) (d := 42) 19 Try.f19 #[.tmp 41] _ #[.slice A3 b.length c2] rfl (wanted_some rfl rfl rfl (h.get 4 36 (by decide) (hneed 4 (by kernel_rfl)))) rfl (by decide) rfl (by simp [(h.get 9 41 (by decide) (hneed 9 (by kernel_rfl))), apartVal]) Try.func19 (by kernel_rfl) (by kernel_rfl) ?_
    (have hc := shasum shastep_ok b A3 c2 w (hb3.below h.below (Nat.le_refl _)) hb4 hbl hc2; rw [hD] at hc; exact hc)
  · exact fix_value (i := 11) (d := 43) rfl (wanted_some rfl rfl rfl (h.get 4 36 (by decide) (hneed 4 (by kernel_rfl)))) rfl (by decide) (x_eql_agg rfl (h.get 5 37 (by decide) (hneed 5 (by kernel_rfl))) (h.get 10 42 (by decide) (hneed 10 (by kernel_rfl))) (by kernel_rfl) (heq w))
  · exact fix_value (i := 12) (d := 44) rfl (wanted_none rfl) rfl (by decide) (x_pick_t rfl (h.get 4 36 (by decide) (hneed 4 (by kernel_rfl))) (h.get 11 43 (by decide) (hneed 11 (by kernel_rfl))))
  · exact fix_value (i := 13) (d := 45) rfl (wanted_none rfl) rfl (by decide) (x_move rfl (h.get 12 44 (by decide) (hneed 12 (by kernel_rfl))))
  · refine fix_call (i := 14) (d := 46) 9 Try.f9 #[] _ #[] rfl (wanted_some rfl rfl rfl (h.get 13 45 (by decide) (hneed 13 (by kernel_rfl)))) rfl (by decide) rfl (by simp) Try.func9 (by kernel_rfl) (by kernel_rfl) ?_
    exact known_any w
  · exact fix_value (i := 15) (d := 47) rfl (wanted_none rfl) rfl (by decide) (x_pick_t rfl (h.get 13 45 (by decide) (hneed 13 (by kernel_rfl))) (h.get 14 46 (by decide) (hneed 14 (by kernel_rfl))))
  · exact fix_value (i := 16) (d := 4) rfl (wanted_none rfl) rfl (by decide) (x_assign rfl (h.get 15 47 (by decide) (hneed 15 (by kernel_rfl))))
end Go.Proofs.Ytjglboejgmplgaa
