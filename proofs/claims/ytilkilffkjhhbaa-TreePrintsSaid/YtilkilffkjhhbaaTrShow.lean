/-
  The drawn regions of the reference's text.
  An expression as text, by the reference: part and text.
  The functions Show, of the program and of the reference.
-/
import Derived.Test.YtilkilffkjhhbaaTrG
import Derived.Test.YtilkilffkjhhbaaTrX
import Derived.Test.YtilkilffkjhhbaaTrRa
namespace Go.Proofs.Ytilkilffkjhhbaa
set_option maxRecDepth 20000
set_option linter.unusedVariables false
open Go.RowKit Mem Tr

theorem index_sub0 (w : World) (g off n cap : Nat) (h : 0 < n := by decide) : (Instr.indexAt 41 (.slice (some ⟨g, off, none⟩) n cap) (.int .i64 0)).run Try.prog w = .ok (.pointer (some ⟨g, off, none⟩)) w := by
  have e : n ≠ 0 := by omega
  simp [go_sem, e]
theorem index_sub1 (w : World) (g off n cap : Nat) (h : 1 < n := by decide) : (Instr.indexAt 41 (.slice (some ⟨g, off, none⟩) n cap) (.int .i64 1)).run Try.prog w = .ok (.pointer (some ⟨g, off + 4, none⟩)) w := by
  have e : (1 : Int) < (n : Int) := by omega
  simp [go_sem, e]
theorem index_sub2 (w : World) (g off n cap : Nat) (h : 2 < n := by decide) : (Instr.indexAt 41 (.slice (some ⟨g, off, none⟩) n cap) (.int .i64 2)).run Try.prog w = .ok (.pointer (some ⟨g, off + 8, none⟩)) w := by
  have e : (2 : Int) < (n : Int) := by omega
  simp [go_sem, e]
theorem conv_n (w : World) (n : Int) (h1 : -2147483648 ≤ n) (h2 : n ≤ 2147483647) : (convert 21 3 (.int .i32 n)).run Try.prog w = .ok (.int .i64 n) w := by
  have : IntKind.i64.wrap n = n := IntWalk.i64_in _ (by omega)
  have hk : Try.prog.intKind 3 = .i64 := by kernel_rfl
  rw [run_convert_int (P := Try.prog) w 21 3 .i32 n (by rw [Try.underlying21]; rfl) (by rw [hk]; exact Try.underlying3), hk, this]
noncomputable def rt5Ops : Array Oper := findOps 15 ((Try.f53).body.getD (.exit 0))
def rt5Slots : List (Nat × Nat) := [(0, 38), (1, 39), (2, 40), (3, 41), (4, 42), (5, 43), (6, 44), (7, 45), (8, 46), (9, 47), (10, 48), (11, 49), (12, 50), (13, 51), (14, 52), (15, 53), (16, 54), (17, 55), (18, 2)]
def rt5Val (ge g off cap : Nat) (n : Int) (m mm : Lx.Bs) (a b : Ex) (Aa Ab : Option Addr) (ca cb : Nat) (ta tb : Lx.Bs) : Nat → Value
  | 0 => .pointer (some ⟨ge, 3, none⟩)
  | 1 => .slice (some ⟨g, off, none⟩) 2 cap
  | 2 => .pointer (some ⟨g, off, none⟩)
  | 3 => .agg #[.int .i64 a.kind, .int .i32 a.n, .string ⟨a.name.toArray⟩, .slice Aa a.sub.length ca]
  | 4 => .string ⟨ta.toArray⟩
  | 5 => .string ⟨(ta ++ [32]).toArray⟩
  | 6 => .pointer (some ⟨ge, 1, none⟩)
  | 7 => .int .i32 n
  | 8 => .int .i64 n
  | 9 => .string ⟨mm.toArray⟩
  | 10 => .string ⟨((ta ++ [32]) ++ mm).toArray⟩
  | 11 => .string ⟨(((ta ++ [32]) ++ mm) ++ [32]).toArray⟩
  | 12 => .pointer (some ⟨ge, 3, none⟩)
  | 13 => .slice (some ⟨g, off, none⟩) 2 cap
  | 14 => .pointer (some ⟨g, off + 4, none⟩)
  | 15 => .agg #[.int .i64 b.kind, .int .i32 b.n, .string ⟨b.name.toArray⟩, .slice Ab b.sub.length cb]
  | 16 => .string ⟨tb.toArray⟩
  | 17 => .string ⟨((((ta ++ [32]) ++ mm) ++ [32]) ++ tb).toArray⟩
  | _ => .string ⟨((((ta ++ [32]) ++ mm) ++ [32]) ++ tb).toArray⟩
theorem rt5Region {Q : Exit → Act → World → Prop} (a0 : Act) (W0 : World) (hs : 55 < a0.tmps.size) (ge g off cap : Nat) (n : Int) (m mm : Lx.Bs) (a b : Ex) (Aa Ab : Option Addr) (ca cb : Nat) (ta tb : Lx.Bs) (m3 : W0.cell? ⟨ge, 3, none⟩ = some (.slice (some ⟨g, off, none⟩) 2 cap)) (m1 : W0.cell? ⟨ge, 1, none⟩ = some (.int .i32 n)) (hn1 : 1 ≤ n) (hn2 : n ≤ 16) (hmm : ∀ W, Calls Try.prog 25 #[.int .i64 n] W fun e w' => e = .returned (.string ⟨mm.toArray⟩) ∧ Below W.heap.size W w') (hml : mm.length ≤ 2) (ha : W0.cell? ⟨g, off, none⟩ = some (.int .i64 a.kind) ∧ W0.cell? ⟨g, off + 1, none⟩ = some (.int .i32 a.n) ∧ W0.cell? ⟨g, off + 2, none⟩ = some (.string ⟨a.name.toArray⟩) ∧ W0.cell? ⟨g, off + 3, none⟩ = some (.slice Aa a.sub.length ca)) (hca : ∀ W, Below W0.heap.size W0 W → Calls Try.prog 84 #[.agg #[.int .i64 a.kind, .int .i32 a.n, .string ⟨a.name.toArray⟩, .slice Aa a.sub.length ca]] W fun e w' => e = .returned (.string ⟨ta.toArray⟩) ∧ Below W.heap.size W w') (hla : ta.length ≤ 100000) (hb : W0.cell? ⟨g, off + 4, none⟩ = some (.int .i64 b.kind) ∧ W0.cell? ⟨g, off + 4 + 1, none⟩ = some (.int .i32 b.n) ∧ W0.cell? ⟨g, off + 4 + 2, none⟩ = some (.string ⟨b.name.toArray⟩) ∧ W0.cell? ⟨g, off + 4 + 3, none⟩ = some (.slice Ab b.sub.length cb)) (hcb : ∀ W, Below W0.heap.size W0 W → Calls Try.prog 84 #[.agg #[.int .i64 b.kind, .int .i32 b.n, .string ⟨b.name.toArray⟩, .slice Ab b.sub.length cb]] W fun e w' => e = .returned (.string ⟨tb.toArray⟩) ∧ Below W.heap.size W w') (hlb : tb.length ≤ 100000)
    (e1 : a0.eval (.tmp 1) = .pointer (some ⟨ge, 0, none⟩))
    (hQ : ∀ w, Below W0.heap.size W0 w → Q .normal (rt5Slots.foldl (fun x p => x.put (some p.2) ((rt5Val ge g off cap n m mm a b Aa Ab ca cb ta tb) p.1)) a0) w) :
    wpAny Try.prog .any rt5Ops Q 19 (Array.replicate 19 false) a0 W0.drew := by
  have ok : slotsFix rt5Slots a0.tmps.size = true := by
    have : ∀ z, 55 < z → slotsFix rt5Slots z = true := by
      intro z hz
      simp [slotsFix, rt5Slots]
      omega
    exact this _ hs
  have lge : ge < W0.heap.size := World.block_lt_of_cell? _ _ m3
  have lg : g < W0.heap.size := World.block_lt_of_cell? _ _ ha.1
  refine region_fixed (by kernel_rfl) W0 a0 rt5Slots (rt5Val ge g off cap n m mm a b Aa Ab ca cb ta tb) ok (by kernel_rfl) 19 (by kernel_rfl) ?_ hQ
  intro i L a1 w h hi hneed
  rcases (show i = 0 ∨ i = 1 ∨ i = 2 ∨ i = 3 ∨ i = 4 ∨ i = 5 ∨ i = 6 ∨ i = 7 ∨ i = 8 ∨ i = 9 ∨ i = 10 ∨ i = 11 ∨ i = 12 ∨ i = 13 ∨ i = 14 ∨ i = 15 ∨ i = 16 ∨ i = 17 ∨ i = 18 by omega) with rfl | rfl | rfl | rfl | rfl | rfl | rfl | rfl | rfl | rfl | rfl | rfl | rfl | rfl | rfl | rfl | rfl | rfl | rfl
  · exact fix_value (i := 0) (d := 38) rfl (wanted_none rfl) rfl (by decide) (x_field rfl ((h.old rfl).trans e1) (by simp [go_sem]))
  · exact fix_value (i := 1) (d := 39) rfl (wanted_none rfl) rfl (by decide) (x_load rfl (h.get 0 38 (by decide) (hneed 0 (by kernel_rfl))) (by have hh := (h.below.cell (p := ⟨ge, 3, none⟩) lge).trans m3; simp [go_sem, hh]; try rfl))
  · exact fix_value (i := 2) (d := 40) rfl (wanted_none rfl) rfl (by decide) (x_index rfl (h.get 1 39 (by decide) (hneed 1 (by kernel_rfl))) rfl (index_sub0 w g off 2 cap))
  · exact fix_value (i := 3) (d := 41) rfl (wanted_none rfl) rfl (by decide) (x_load rfl (h.get 2 40 (by decide) (hneed 2 (by kernel_rfl))) (by have h0 := (h.below.cell (p := ⟨g, off, none⟩) lg).trans ha.1; have h1 := (h.below.cell (p := ⟨g, off + 1, none⟩) lg).trans ha.2.1; have h2 := (h.below.cell (p := ⟨g, off + 2, none⟩) lg).trans ha.2.2.1; have h3 := (h.below.cell (p := ⟨g, off + 3, none⟩) lg).trans ha.2.2.2; simp [go_sem, h0, h1, h2, h3]; try rfl))
  · refine fix_call (i := 4) (d := 42) 84 Try.f84 #[.tmp 41] _ #[.agg #[.int .i64 a.kind, .int .i32 a.n, .string ⟨a.name.toArray⟩, .slice Aa a.sub.length ca]] rfl (wanted_none rfl) rfl (by decide) rfl (by simp [(h.get 3 41 (by decide) (hneed 3 (by kernel_rfl))), rt5Val]) Try.func84 (by kernel_rfl) (by kernel_rfl) ?_
    exact hca w h.below
  · exact fix_value (i := 5) (d := 43) rfl (wanted_none rfl) rfl (by decide) (x_addstr rfl (h.get 4 42 (by decide) (hneed 4 (by kernel_rfl))) rfl (by simp; omega))
  · exact fix_value (i := 6) (d := 44) rfl (wanted_none rfl) rfl (by decide) (x_field rfl ((h.old rfl).trans e1) (by simp [go_sem]))
  · exact fix_value (i := 7) (d := 45) rfl (wanted_none rfl) rfl (by decide) (x_load rfl (h.get 6 44 (by decide) (hneed 6 (by kernel_rfl))) (by have hh := (h.below.cell (p := ⟨ge, 1, none⟩) lge).trans m1; simp [go_sem, hh]; try rfl))
  · exact fix_value (i := 8) (d := 46) rfl (wanted_none rfl) rfl (by decide) (x_conv rfl (h.get 7 45 (by decide) (hneed 7 (by kernel_rfl))) (conv_n w n (by omega) (by omega)))
  · refine fix_call (i := 9) (d := 47) 25 Try.f25 #[.tmp 46] _ #[.int .i64 n] rfl (wanted_none rfl) rfl (by decide) rfl (by simp [(h.get 8 46 (by decide) (hneed 8 (by kernel_rfl))), rt5Val]) Try.func25 (by kernel_rfl) (by kernel_rfl) ?_
    exact hmm w
  · exact fix_value (i := 10) (d := 48) rfl (wanted_none rfl) rfl (by decide) (x_addstr rfl (h.get 5 43 (by decide) (hneed 5 (by kernel_rfl))) (h.get 9 47 (by decide) (hneed 9 (by kernel_rfl))) (by simp; omega))
  · exact fix_value (i := 11) (d := 49) rfl (wanted_none rfl) rfl (by decide) (x_addstr rfl (h.get 10 48 (by decide) (hneed 10 (by kernel_rfl))) rfl (by simp; omega))
  · exact fix_value (i := 12) (d := 50) rfl (wanted_none rfl) rfl (by decide) (x_field rfl ((h.old rfl).trans e1) (by simp [go_sem]))
  · exact fix_value (i := 13) (d := 51) rfl (wanted_none rfl) rfl (by decide) (x_load rfl (h.get 12 50 (by decide) (hneed 12 (by kernel_rfl))) (by have hh := (h.below.cell (p := ⟨ge, 3, none⟩) lge).trans m3; simp [go_sem, hh]; try rfl))
  · exact fix_value (i := 14) (d := 52) rfl (wanted_none rfl) rfl (by decide) (x_index rfl (h.get 13 51 (by decide) (hneed 13 (by kernel_rfl))) rfl (index_sub1 w g off 2 cap))
  · exact fix_value (i := 15) (d := 53) rfl (wanted_none rfl) rfl (by decide) (x_load rfl (h.get 14 52 (by decide) (hneed 14 (by kernel_rfl))) (by have h0 := (h.below.cell (p := ⟨g, off + 4, none⟩) lg).trans hb.1; have h1 := (h.below.cell (p := ⟨g, off + 4 + 1, none⟩) lg).trans hb.2.1; have h2 := (h.below.cell (p := ⟨g, off + 4 + 2, none⟩) lg).trans hb.2.2.1; have h3 := (h.below.cell (p := ⟨g, off + 4 + 3, none⟩) lg).trans hb.2.2.2; simp [go_sem, h0, h1, h2, h3]; try rfl))
  · refine fix_call (i := 16) (d := 54) 84 Try.f84 #[.tmp 53] _ #[.agg #[.int .i64 b.kind, .int .i32 b.n, .string ⟨b.name.toArray⟩, .slice Ab b.sub.length cb]] rfl (wanted_none rfl) rfl (by decide) rfl (by simp [(h.get 15 53 (by decide) (hneed 15 (by kernel_rfl))), rt5Val]) Try.func84 (by kernel_rfl) (by kernel_rfl) ?_
    exact hcb w h.below
  · exact fix_value (i := 17) (d := 55) rfl (wanted_none rfl) rfl (by decide) (x_addstr rfl (h.get 11 49 (by decide) (hneed 11 (by kernel_rfl))) (h.get 16 54 (by decide) (hneed 16 (by kernel_rfl))) (by simp; omega))
  · exact fix_value (i := 18) (d := 2) rfl (wanted_none rfl) rfl (by decide) (x_assign rfl (h.get 17 55 (by decide) (hneed 17 (by kernel_rfl))))
noncomputable def rt6Ops : Array Oper := findOps 17 ((Try.f53).body.getD (.exit 0))
def rt6Slots : List (Nat × Nat) := [(0, 58), (1, 59), (2, 60), (3, 61), (4, 62), (5, 63), (6, 64), (7, 65), (8, 66), (9, 67), (10, 68), (11, 69), (12, 70), (13, 71), (14, 72), (15, 73), (16, 74), (17, 75), (18, 76), (19, 77), (20, 2)]
def rt6Val (ge g off cap : Nat) (n : Int) (m : Lx.Bs) (a b c : Ex) (Aa Ab Ac : Option Addr) (ca cb cc : Nat) (ta tb tc : Lx.Bs) : Nat → Value
  | 0 => .pointer (some ⟨ge, 3, none⟩)
  | 1 => .slice (some ⟨g, off, none⟩) 3 cap
  | 2 => .pointer (some ⟨g, off, none⟩)
  | 3 => .agg #[.int .i64 a.kind, .int .i32 a.n, .string ⟨a.name.toArray⟩, .slice Aa a.sub.length ca]
  | 4 => .string ⟨ta.toArray⟩
  | 5 => .string ⟨([105, 102, 32] ++ ta).toArray⟩
  | 6 => .string ⟨(([105, 102, 32] ++ ta) ++ [32, 116, 104, 101, 110, 32]).toArray⟩
  | 7 => .pointer (some ⟨ge, 3, none⟩)
  | 8 => .slice (some ⟨g, off, none⟩) 3 cap
  | 9 => .pointer (some ⟨g, off + 4, none⟩)
  | 10 => .agg #[.int .i64 b.kind, .int .i32 b.n, .string ⟨b.name.toArray⟩, .slice Ab b.sub.length cb]
  | 11 => .string ⟨tb.toArray⟩
  | 12 => .string ⟨((([105, 102, 32] ++ ta) ++ [32, 116, 104, 101, 110, 32]) ++ tb).toArray⟩
  | 13 => .string ⟨(((([105, 102, 32] ++ ta) ++ [32, 116, 104, 101, 110, 32]) ++ tb) ++ [32, 101, 108, 115, 101, 32]).toArray⟩
  | 14 => .pointer (some ⟨ge, 3, none⟩)
  | 15 => .slice (some ⟨g, off, none⟩) 3 cap
  | 16 => .pointer (some ⟨g, off + 8, none⟩)
  | 17 => .agg #[.int .i64 c.kind, .int .i32 c.n, .string ⟨c.name.toArray⟩, .slice Ac c.sub.length cc]
  | 18 => .string ⟨tc.toArray⟩
  | 19 => .string ⟨((((([105, 102, 32] ++ ta) ++ [32, 116, 104, 101, 110, 32]) ++ tb) ++ [32, 101, 108, 115, 101, 32]) ++ tc).toArray⟩
  | _ => .string ⟨((((([105, 102, 32] ++ ta) ++ [32, 116, 104, 101, 110, 32]) ++ tb) ++ [32, 101, 108, 115, 101, 32]) ++ tc).toArray⟩
theorem rt6Region {Q : Exit → Act → World → Prop} (a0 : Act) (W0 : World) (hs : 77 < a0.tmps.size) (ge g off cap : Nat) (n : Int) (m : Lx.Bs) (a b c : Ex) (Aa Ab Ac : Option Addr) (ca cb cc : Nat) (ta tb tc : Lx.Bs) (m3 : W0.cell? ⟨ge, 3, none⟩ = some (.slice (some ⟨g, off, none⟩) 3 cap)) (ha : W0.cell? ⟨g, off, none⟩ = some (.int .i64 a.kind) ∧ W0.cell? ⟨g, off + 1, none⟩ = some (.int .i32 a.n) ∧ W0.cell? ⟨g, off + 2, none⟩ = some (.string ⟨a.name.toArray⟩) ∧ W0.cell? ⟨g, off + 3, none⟩ = some (.slice Aa a.sub.length ca)) (hca : ∀ W, Below W0.heap.size W0 W → Calls Try.prog 53 #[.agg #[.int .i64 a.kind, .int .i32 a.n, .string ⟨a.name.toArray⟩, .slice Aa a.sub.length ca]] W fun e w' => e = .returned (.string ⟨ta.toArray⟩) ∧ Below W.heap.size W w') (hla : ta.length ≤ 100000) (hb : W0.cell? ⟨g, off + 4, none⟩ = some (.int .i64 b.kind) ∧ W0.cell? ⟨g, off + 4 + 1, none⟩ = some (.int .i32 b.n) ∧ W0.cell? ⟨g, off + 4 + 2, none⟩ = some (.string ⟨b.name.toArray⟩) ∧ W0.cell? ⟨g, off + 4 + 3, none⟩ = some (.slice Ab b.sub.length cb)) (hcb : ∀ W, Below W0.heap.size W0 W → Calls Try.prog 53 #[.agg #[.int .i64 b.kind, .int .i32 b.n, .string ⟨b.name.toArray⟩, .slice Ab b.sub.length cb]] W fun e w' => e = .returned (.string ⟨tb.toArray⟩) ∧ Below W.heap.size W w') (hlb : tb.length ≤ 100000) (hc : W0.cell? ⟨g, off + 8, none⟩ = some (.int .i64 c.kind) ∧ W0.cell? ⟨g, off + 8 + 1, none⟩ = some (.int .i32 c.n) ∧ W0.cell? ⟨g, off + 8 + 2, none⟩ = some (.string ⟨c.name.toArray⟩) ∧ W0.cell? ⟨g, off + 8 + 3, none⟩ = some (.slice Ac c.sub.length cc)) (hcc : ∀ W, Below W0.heap.size W0 W → Calls Try.prog 53 #[.agg #[.int .i64 c.kind, .int .i32 c.n, .string ⟨c.name.toArray⟩, .slice Ac c.sub.length cc]] W fun e w' => e = .returned (.string ⟨tc.toArray⟩) ∧ Below W.heap.size W w') (hlc : tc.length ≤ 100000)
    (e1 : a0.eval (.tmp 1) = .pointer (some ⟨ge, 0, none⟩))
    (hQ : ∀ w, Below W0.heap.size W0 w → Q .normal (rt6Slots.foldl (fun x p => x.put (some p.2) ((rt6Val ge g off cap n m a b c Aa Ab Ac ca cb cc ta tb tc) p.1)) a0) w) :
    wpAny Try.prog .any rt6Ops Q 21 (Array.replicate 21 false) a0 W0.drew := by
  have ok : slotsFix rt6Slots a0.tmps.size = true := by
    have : ∀ z, 77 < z → slotsFix rt6Slots z = true := by
      intro z hz
      simp [slotsFix, rt6Slots]
      omega
    exact this _ hs
  have lge : ge < W0.heap.size := World.block_lt_of_cell? _ _ m3
  have lg : g < W0.heap.size := World.block_lt_of_cell? _ _ ha.1
  refine region_fixed (by kernel_rfl) W0 a0 rt6Slots (rt6Val ge g off cap n m a b c Aa Ab Ac ca cb cc ta tb tc) ok (by kernel_rfl) 21 (by kernel_rfl) ?_ hQ
  intro i L a1 w h hi hneed
  rcases (show i = 0 ∨ i = 1 ∨ i = 2 ∨ i = 3 ∨ i = 4 ∨ i = 5 ∨ i = 6 ∨ i = 7 ∨ i = 8 ∨ i = 9 ∨ i = 10 ∨ i = 11 ∨ i = 12 ∨ i = 13 ∨ i = 14 ∨ i = 15 ∨ i = 16 ∨ i = 17 ∨ i = 18 ∨ i = 19 ∨ i = 20 by omega) with rfl | rfl | rfl | rfl | rfl | rfl | rfl | rfl | rfl | rfl | rfl | rfl | rfl | rfl | rfl | rfl | rfl | rfl | rfl | rfl | rfl
  · exact fix_value (i := 0) (d := 58) rfl (wanted_none rfl) rfl (by decide) (x_field rfl ((h.old rfl).trans e1) (by simp [go_sem]))
  · exact fix_value (i := 1) (d := 59) rfl (wanted_none rfl) rfl (by decide) (x_load rfl (h.get 0 58 (by decide) (hneed 0 (by kernel_rfl))) (by have hh := (h.below.cell (p := ⟨ge, 3, none⟩) lge).trans m3; simp [go_sem, hh]; try rfl))
  · exact fix_value (i := 2) (d := 60) rfl (wanted_none rfl) rfl (by decide) (x_index rfl (h.get 1 59 (by decide) (hneed 1 (by kernel_rfl))) rfl (index_sub0 w g off 3 cap))
  · exact fix_value (i := 3) (d := 61) rfl (wanted_none rfl) rfl (by decide) (x_load rfl (h.get 2 60 (by decide) (hneed 2 (by kernel_rfl))) (by have h0 := (h.below.cell (p := ⟨g, off, none⟩) lg).trans ha.1; have h1 := (h.below.cell (p := ⟨g, off + 1, none⟩) lg).trans ha.2.1; have h2 := (h.below.cell (p := ⟨g, off + 2, none⟩) lg).trans ha.2.2.1; have h3 := (h.below.cell (p := ⟨g, off + 3, none⟩) lg).trans ha.2.2.2; simp [go_sem, h0, h1, h2, h3]; try rfl))
  · refine fix_call (i := 4) (d := 62) 53 Try.f53 #[.tmp 61] _ #[.agg #[.int .i64 a.kind, .int .i32 a.n, .string ⟨a.name.toArray⟩, .slice Aa a.sub.length ca]] rfl (wanted_none rfl) rfl (by decide) rfl (by simp [(h.get 3 61 (by decide) (hneed 3 (by kernel_rfl))), rt6Val]) Try.func53 (by kernel_rfl) (by kernel_rfl) ?_
    exact hca w h.below
  · exact fix_value (i := 5) (d := 63) rfl (wanted_none rfl) rfl (by decide) (x_addstr rfl rfl (h.get 4 62 (by decide) (hneed 4 (by kernel_rfl))) (by simp; omega))
  · exact fix_value (i := 6) (d := 64) rfl (wanted_none rfl) rfl (by decide) (x_addstr rfl (h.get 5 63 (by decide) (hneed 5 (by kernel_rfl))) rfl (by simp; omega))
  · exact fix_value (i := 7) (d := 65) rfl (wanted_none rfl) rfl (by decide) (x_field rfl ((h.old rfl).trans e1) (by simp [go_sem]))
  · exact fix_value (i := 8) (d := 66) rfl (wanted_none rfl) rfl (by decide) (x_load rfl (h.get 7 65 (by decide) (hneed 7 (by kernel_rfl))) (by have hh := (h.below.cell (p := ⟨ge, 3, none⟩) lge).trans m3; simp [go_sem, hh]; try rfl))
  · exact fix_value (i := 9) (d := 67) rfl (wanted_none rfl) rfl (by decide) (x_index rfl (h.get 8 66 (by decide) (hneed 8 (by kernel_rfl))) rfl (index_sub1 w g off 3 cap))
  · exact fix_value (i := 10) (d := 68) rfl (wanted_none rfl) rfl (by decide) (x_load rfl (h.get 9 67 (by decide) (hneed 9 (by kernel_rfl))) (by have h0 := (h.below.cell (p := ⟨g, off + 4, none⟩) lg).trans hb.1; have h1 := (h.below.cell (p := ⟨g, off + 4 + 1, none⟩) lg).trans hb.2.1; have h2 := (h.below.cell (p := ⟨g, off + 4 + 2, none⟩) lg).trans hb.2.2.1; have h3 := (h.below.cell (p := ⟨g, off + 4 + 3, none⟩) lg).trans hb.2.2.2; simp [go_sem, h0, h1, h2, h3]; try rfl))
  · refine fix_call (i := 11) (d := 69) 53 Try.f53 #[.tmp 68] _ #[.agg #[.int .i64 b.kind, .int .i32 b.n, .string ⟨b.name.toArray⟩, .slice Ab b.sub.length cb]] rfl (wanted_none rfl) rfl (by decide) rfl (by simp [(h.get 10 68 (by decide) (hneed 10 (by kernel_rfl))), rt6Val]) Try.func53 (by kernel_rfl) (by kernel_rfl) ?_
    exact hcb w h.below
  · exact fix_value (i := 12) (d := 70) rfl (wanted_none rfl) rfl (by decide) (x_addstr rfl (h.get 6 64 (by decide) (hneed 6 (by kernel_rfl))) (h.get 11 69 (by decide) (hneed 11 (by kernel_rfl))) (by simp; omega))
  · exact fix_value (i := 13) (d := 71) rfl (wanted_none rfl) rfl (by decide) (x_addstr rfl (h.get 12 70 (by decide) (hneed 12 (by kernel_rfl))) rfl (by simp; omega))
  · exact fix_value (i := 14) (d := 72) rfl (wanted_none rfl) rfl (by decide) (x_field rfl ((h.old rfl).trans e1) (by simp [go_sem]))
  · exact fix_value (i := 15) (d := 73) rfl (wanted_none rfl) rfl (by decide) (x_load rfl (h.get 14 72 (by decide) (hneed 14 (by kernel_rfl))) (by have hh := (h.below.cell (p := ⟨ge, 3, none⟩) lge).trans m3; simp [go_sem, hh]; try rfl))
  · exact fix_value (i := 16) (d := 74) rfl (wanted_none rfl) rfl (by decide) (x_index rfl (h.get 15 73 (by decide) (hneed 15 (by kernel_rfl))) rfl (index_sub2 w g off 3 cap))
  · exact fix_value (i := 17) (d := 75) rfl (wanted_none rfl) rfl (by decide) (x_load rfl (h.get 16 74 (by decide) (hneed 16 (by kernel_rfl))) (by have h0 := (h.below.cell (p := ⟨g, off + 8, none⟩) lg).trans hc.1; have h1 := (h.below.cell (p := ⟨g, off + 8 + 1, none⟩) lg).trans hc.2.1; have h2 := (h.below.cell (p := ⟨g, off + 8 + 2, none⟩) lg).trans hc.2.2.1; have h3 := (h.below.cell (p := ⟨g, off + 8 + 3, none⟩) lg).trans hc.2.2.2; simp [go_sem, h0, h1, h2, h3]; try rfl))
  · refine fix_call (i := 18) (d := 76) 53 Try.f53 #[.tmp 75] _ #[.agg #[.int .i64 c.kind, .int .i32 c.n, .string ⟨c.name.toArray⟩, .slice Ac c.sub.length cc]] rfl (wanted_none rfl) rfl (by decide) rfl (by simp [(h.get 17 75 (by decide) (hneed 17 (by kernel_rfl))), rt6Val]) Try.func53 (by kernel_rfl) (by kernel_rfl) ?_
    exact hcc w h.below
  · exact fix_value (i := 19) (d := 77) rfl (wanted_none rfl) rfl (by decide) (x_addstr rfl (h.get 13 71 (by decide) (hneed 13 (by kernel_rfl))) (h.get 18 76 (by decide) (hneed 18 (by kernel_rfl))) (by simp; omega))
  · exact fix_value (i := 20) (d := 2) rfl (wanted_none rfl) rfl (by decide) (x_assign rfl (h.get 19 77 (by decide) (hneed 19 (by kernel_rfl))))
noncomputable def rt7Ops : Array Oper := findOps 19 ((Try.f53).body.getD (.exit 0))
def rt7Slots : List (Nat × Nat) := [(0, 80), (1, 81), (2, 82), (3, 83), (4, 84), (5, 85), (6, 86), (7, 87), (8, 88), (9, 89), (10, 90), (11, 91), (12, 2)]
def rt7Val (ge g off cap : Nat) (n : Int) (m : Lx.Bs) (a b : Ex) (Aa Ab : Option Addr) (ca cb : Nat) (ta tb : Lx.Bs) : Nat → Value
  | 0 => .pointer (some ⟨ge, 3, none⟩)
  | 1 => .slice (some ⟨g, off, none⟩) 2 cap
  | 2 => .pointer (some ⟨g, off, none⟩)
  | 3 => .agg #[.int .i64 a.kind, .int .i32 a.n, .string ⟨a.name.toArray⟩, .slice Aa a.sub.length ca]
  | 4 => .string ⟨ta.toArray⟩
  | 5 => .string ⟨(ta ++ [32, 45, 62, 32]).toArray⟩
  | 6 => .pointer (some ⟨ge, 3, none⟩)
  | 7 => .slice (some ⟨g, off, none⟩) 2 cap
  | 8 => .pointer (some ⟨g, off + 4, none⟩)
  | 9 => .agg #[.int .i64 b.kind, .int .i32 b.n, .string ⟨b.name.toArray⟩, .slice Ab b.sub.length cb]
  | 10 => .string ⟨tb.toArray⟩
  | 11 => .string ⟨((ta ++ [32, 45, 62, 32]) ++ tb).toArray⟩
  | _ => .string ⟨((ta ++ [32, 45, 62, 32]) ++ tb).toArray⟩
theorem rt7Region {Q : Exit → Act → World → Prop} (a0 : Act) (W0 : World) (hs : 91 < a0.tmps.size) (ge g off cap : Nat) (n : Int) (m : Lx.Bs) (a b : Ex) (Aa Ab : Option Addr) (ca cb : Nat) (ta tb : Lx.Bs) (m3 : W0.cell? ⟨ge, 3, none⟩ = some (.slice (some ⟨g, off, none⟩) 2 cap)) (ha : W0.cell? ⟨g, off, none⟩ = some (.int .i64 a.kind) ∧ W0.cell? ⟨g, off + 1, none⟩ = some (.int .i32 a.n) ∧ W0.cell? ⟨g, off + 2, none⟩ = some (.string ⟨a.name.toArray⟩) ∧ W0.cell? ⟨g, off + 3, none⟩ = some (.slice Aa a.sub.length ca)) (hca : ∀ W, Below W0.heap.size W0 W → Calls Try.prog 84 #[.agg #[.int .i64 a.kind, .int .i32 a.n, .string ⟨a.name.toArray⟩, .slice Aa a.sub.length ca]] W fun e w' => e = .returned (.string ⟨ta.toArray⟩) ∧ Below W.heap.size W w') (hla : ta.length ≤ 100000) (hb : W0.cell? ⟨g, off + 4, none⟩ = some (.int .i64 b.kind) ∧ W0.cell? ⟨g, off + 4 + 1, none⟩ = some (.int .i32 b.n) ∧ W0.cell? ⟨g, off + 4 + 2, none⟩ = some (.string ⟨b.name.toArray⟩) ∧ W0.cell? ⟨g, off + 4 + 3, none⟩ = some (.slice Ab b.sub.length cb)) (hcb : ∀ W, Below W0.heap.size W0 W → Calls Try.prog 84 #[.agg #[.int .i64 b.kind, .int .i32 b.n, .string ⟨b.name.toArray⟩, .slice Ab b.sub.length cb]] W fun e w' => e = .returned (.string ⟨tb.toArray⟩) ∧ Below W.heap.size W w') (hlb : tb.length ≤ 100000)
    (e1 : a0.eval (.tmp 1) = .pointer (some ⟨ge, 0, none⟩))
    (hQ : ∀ w, Below W0.heap.size W0 w → Q .normal (rt7Slots.foldl (fun x p => x.put (some p.2) ((rt7Val ge g off cap n m a b Aa Ab ca cb ta tb) p.1)) a0) w) :
    wpAny Try.prog .any rt7Ops Q 13 (Array.replicate 13 false) a0 W0.drew := by
  have ok : slotsFix rt7Slots a0.tmps.size = true := by
    have : ∀ z, 91 < z → slotsFix rt7Slots z = true := by
      intro z hz
      simp [slotsFix, rt7Slots]
      omega
    exact this _ hs
  have lge : ge < W0.heap.size := World.block_lt_of_cell? _ _ m3
  have lg : g < W0.heap.size := World.block_lt_of_cell? _ _ ha.1
  refine region_fixed (by kernel_rfl) W0 a0 rt7Slots (rt7Val ge g off cap n m a b Aa Ab ca cb ta tb) ok (by kernel_rfl) 13 (by kernel_rfl) ?_ hQ
  intro i L a1 w h hi hneed
  rcases (show i = 0 ∨ i = 1 ∨ i = 2 ∨ i = 3 ∨ i = 4 ∨ i = 5 ∨ i = 6 ∨ i = 7 ∨ i = 8 ∨ i = 9 ∨ i = 10 ∨ i = 11 ∨ i = 12 by omega) with rfl | rfl | rfl | rfl | rfl | rfl | rfl | rfl | rfl | rfl | rfl | rfl | rfl
  · exact fix_value (i := 0) (d := 80) rfl (wanted_none rfl) rfl (by decide) (x_field rfl ((h.old rfl).trans e1) (by simp [go_sem]))
  · exact fix_value (i := 1) (d := 81) rfl (wanted_none rfl) rfl (by decide) (x_load rfl (h.get 0 80 (by decide) (hneed 0 (by kernel_rfl))) (by have hh := (h.below.cell (p := ⟨ge, 3, none⟩) lge).trans m3; simp [go_sem, hh]; try rfl))
  · exact fix_value (i := 2) (d := 82) rfl (wanted_none rfl) rfl (by decide) (x_index rfl (h.get 1 81 (by decide) (hneed 1 (by kernel_rfl))) rfl (index_sub0 w g off 2 cap))
  · exact fix_value (i := 3) (d := 83) rfl (wanted_none rfl) rfl (by decide) (x_load rfl (h.get 2 82 (by decide) (hneed 2 (by kernel_rfl))) (by have h0 := (h.below.cell (p := ⟨g, off, none⟩) lg).trans ha.1; have h1 := (h.below.cell (p := ⟨g, off + 1, none⟩) lg).trans ha.2.1; have h2 := (h.below.cell (p := ⟨g, off + 2, none⟩) lg).trans ha.2.2.1; have h3 := (h.below.cell (p := ⟨g, off + 3, none⟩) lg).trans ha.2.2.2; simp [go_sem, h0, h1, h2, h3]; try rfl))
  · refine fix_call (i := 4) (d := 84) 84 Try.f84 #[.tmp 83] _ #[.agg #[.int .i64 a.kind, .int .i32 a.n, .string ⟨a.name.toArray⟩, .slice Aa a.sub.length ca]] rfl (wanted_none rfl) rfl (by decide) rfl (by simp [(h.get 3 83 (by decide) (hneed 3 (by kernel_rfl))), rt7Val]) Try.func84 (by kernel_rfl) (by kernel_rfl) ?_
    exact hca w h.below
  · exact fix_value (i := 5) (d := 85) rfl (wanted_none rfl) rfl (by decide) (x_addstr rfl (h.get 4 84 (by decide) (hneed 4 (by kernel_rfl))) rfl (by simp; omega))
  · exact fix_value (i := 6) (d := 86) rfl (wanted_none rfl) rfl (by decide) (x_field rfl ((h.old rfl).trans e1) (by simp [go_sem]))
  · exact fix_value (i := 7) (d := 87) rfl (wanted_none rfl) rfl (by decide) (x_load rfl (h.get 6 86 (by decide) (hneed 6 (by kernel_rfl))) (by have hh := (h.below.cell (p := ⟨ge, 3, none⟩) lge).trans m3; simp [go_sem, hh]; try rfl))
  · exact fix_value (i := 8) (d := 88) rfl (wanted_none rfl) rfl (by decide) (x_index rfl (h.get 7 87 (by decide) (hneed 7 (by kernel_rfl))) rfl (index_sub1 w g off 2 cap))
  · exact fix_value (i := 9) (d := 89) rfl (wanted_none rfl) rfl (by decide) (x_load rfl (h.get 8 88 (by decide) (hneed 8 (by kernel_rfl))) (by have h0 := (h.below.cell (p := ⟨g, off + 4, none⟩) lg).trans hb.1; have h1 := (h.below.cell (p := ⟨g, off + 4 + 1, none⟩) lg).trans hb.2.1; have h2 := (h.below.cell (p := ⟨g, off + 4 + 2, none⟩) lg).trans hb.2.2.1; have h3 := (h.below.cell (p := ⟨g, off + 4 + 3, none⟩) lg).trans hb.2.2.2; simp [go_sem, h0, h1, h2, h3]; try rfl))
  · refine fix_call (i := 10) (d := 90) 84 Try.f84 #[.tmp 89] _ #[.agg #[.int .i64 b.kind, .int .i32 b.n, .string ⟨b.name.toArray⟩, .slice Ab b.sub.length cb]] rfl (wanted_none rfl) rfl (by decide) rfl (by simp [(h.get 9 89 (by decide) (hneed 9 (by kernel_rfl))), rt7Val]) Try.func84 (by kernel_rfl) (by kernel_rfl) ?_
    exact hcb w h.below
  · exact fix_value (i := 11) (d := 91) rfl (wanted_none rfl) rfl (by decide) (x_addstr rfl (h.get 5 85 (by decide) (hneed 5 (by kernel_rfl))) (h.get 10 90 (by decide) (hneed 10 (by kernel_rfl))) (by simp; omega))
  · exact fix_value (i := 12) (d := 2) rfl (wanted_none rfl) rfl (by decide) (x_assign rfl (h.get 11 91 (by decide) (hneed 11 (by kernel_rfl))))
noncomputable def rt8Ops : Array Oper := findOps 21 ((Try.f53).body.getD (.exit 0))
def rt8Slots : List (Nat × Nat) := [(0, 94), (1, 95), (2, 96), (3, 97), (4, 98), (5, 99), (6, 100), (7, 101), (8, 102), (9, 2)]
def rt8Val (ge g off cap : Nat) (n : Int) (m : Lx.Bs) (a : Ex) (Aa : Option Addr) (ca : Nat) (ta : Lx.Bs) : Nat → Value
  | 0 => .pointer (some ⟨ge, 3, none⟩)
  | 1 => .slice (some ⟨g, off, none⟩) 1 cap
  | 2 => .pointer (some ⟨g, off, none⟩)
  | 3 => .agg #[.int .i64 a.kind, .int .i32 a.n, .string ⟨a.name.toArray⟩, .slice Aa a.sub.length ca]
  | 4 => .string ⟨ta.toArray⟩
  | 5 => .string ⟨(ta ++ [32, 119, 104, 101, 110, 32]).toArray⟩
  | 6 => .pointer (some ⟨ge, 2, none⟩)
  | 7 => .string ⟨m.toArray⟩
  | 8 => .string ⟨((ta ++ [32, 119, 104, 101, 110, 32]) ++ m).toArray⟩
  | _ => .string ⟨((ta ++ [32, 119, 104, 101, 110, 32]) ++ m).toArray⟩
theorem rt8Region {Q : Exit → Act → World → Prop} (a0 : Act) (W0 : World) (hs : 102 < a0.tmps.size) (ge g off cap : Nat) (n : Int) (m : Lx.Bs) (a : Ex) (Aa : Option Addr) (ca : Nat) (ta : Lx.Bs) (m3 : W0.cell? ⟨ge, 3, none⟩ = some (.slice (some ⟨g, off, none⟩) 1 cap)) (m2 : W0.cell? ⟨ge, 2, none⟩ = some (.string ⟨m.toArray⟩)) (hnl : m.length ≤ 16) (ha : W0.cell? ⟨g, off, none⟩ = some (.int .i64 a.kind) ∧ W0.cell? ⟨g, off + 1, none⟩ = some (.int .i32 a.n) ∧ W0.cell? ⟨g, off + 2, none⟩ = some (.string ⟨a.name.toArray⟩) ∧ W0.cell? ⟨g, off + 3, none⟩ = some (.slice Aa a.sub.length ca)) (hca : ∀ W, Below W0.heap.size W0 W → Calls Try.prog 84 #[.agg #[.int .i64 a.kind, .int .i32 a.n, .string ⟨a.name.toArray⟩, .slice Aa a.sub.length ca]] W fun e w' => e = .returned (.string ⟨ta.toArray⟩) ∧ Below W.heap.size W w') (hla : ta.length ≤ 100000)
    (e1 : a0.eval (.tmp 1) = .pointer (some ⟨ge, 0, none⟩))
    (hQ : ∀ w, Below W0.heap.size W0 w → Q .normal (rt8Slots.foldl (fun x p => x.put (some p.2) ((rt8Val ge g off cap n m a Aa ca ta) p.1)) a0) w) :
    wpAny Try.prog .any rt8Ops Q 10 (Array.replicate 10 false) a0 W0.drew := by
  have ok : slotsFix rt8Slots a0.tmps.size = true := by
    have : ∀ z, 102 < z → slotsFix rt8Slots z = true := by
      intro z hz
      simp [slotsFix, rt8Slots]
      omega
    exact this _ hs
  have lge : ge < W0.heap.size := World.block_lt_of_cell? _ _ m3
  have lg : g < W0.heap.size := World.block_lt_of_cell? _ _ ha.1
  refine region_fixed (by kernel_rfl) W0 a0 rt8Slots (rt8Val ge g off cap n m a Aa ca ta) ok (by kernel_rfl) 10 (by kernel_rfl) ?_ hQ
  intro i L a1 w h hi hneed
  rcases (show i = 0 ∨ i = 1 ∨ i = 2 ∨ i = 3 ∨ i = 4 ∨ i = 5 ∨ i = 6 ∨ i = 7 ∨ i = 8 ∨ i = 9 by omega) with rfl | rfl | rfl | rfl | rfl | rfl | rfl | rfl | rfl | rfl
  · exact fix_value (i := 0) (d := 94) rfl (wanted_none rfl) rfl (by decide) (x_field rfl ((h.old rfl).trans e1) (by simp [go_sem]))
  · exact fix_value (i := 1) (d := 95) rfl (wanted_none rfl) rfl (by decide) (x_load rfl (h.get 0 94 (by decide) (hneed 0 (by kernel_rfl))) (by have hh := (h.below.cell (p := ⟨ge, 3, none⟩) lge).trans m3; simp [go_sem, hh]; try rfl))
  · exact fix_value (i := 2) (d := 96) rfl (wanted_none rfl) rfl (by decide) (x_index rfl (h.get 1 95 (by decide) (hneed 1 (by kernel_rfl))) rfl (index_sub0 w g off 1 cap))
  · exact fix_value (i := 3) (d := 97) rfl (wanted_none rfl) rfl (by decide) (x_load rfl (h.get 2 96 (by decide) (hneed 2 (by kernel_rfl))) (by have h0 := (h.below.cell (p := ⟨g, off, none⟩) lg).trans ha.1; have h1 := (h.below.cell (p := ⟨g, off + 1, none⟩) lg).trans ha.2.1; have h2 := (h.below.cell (p := ⟨g, off + 2, none⟩) lg).trans ha.2.2.1; have h3 := (h.below.cell (p := ⟨g, off + 3, none⟩) lg).trans ha.2.2.2; simp [go_sem, h0, h1, h2, h3]; try rfl))
  · refine fix_call (i := 4) (d := 98) 84 Try.f84 #[.tmp 97] _ #[.agg #[.int .i64 a.kind, .int .i32 a.n, .string ⟨a.name.toArray⟩, .slice Aa a.sub.length ca]] rfl (wanted_none rfl) rfl (by decide) rfl (by simp [(h.get 3 97 (by decide) (hneed 3 (by kernel_rfl))), rt8Val]) Try.func84 (by kernel_rfl) (by kernel_rfl) ?_
    exact hca w h.below
  · exact fix_value (i := 5) (d := 99) rfl (wanted_none rfl) rfl (by decide) (x_addstr rfl (h.get 4 98 (by decide) (hneed 4 (by kernel_rfl))) rfl (by simp; omega))
  · exact fix_value (i := 6) (d := 100) rfl (wanted_none rfl) rfl (by decide) (x_field rfl ((h.old rfl).trans e1) (by simp [go_sem]))
  · exact fix_value (i := 7) (d := 101) rfl (wanted_none rfl) rfl (by decide) (x_load rfl (h.get 6 100 (by decide) (hneed 6 (by kernel_rfl))) (by have hh := (h.below.cell (p := ⟨ge, 2, none⟩) lge).trans m2; simp [go_sem, hh]; try rfl))
  · exact fix_value (i := 8) (d := 102) rfl (wanted_none rfl) rfl (by decide) (x_addstr rfl (h.get 5 99 (by decide) (hneed 5 (by kernel_rfl))) (h.get 7 101 (by decide) (hneed 7 (by kernel_rfl))) (by simp; omega))
  · exact fix_value (i := 9) (d := 2) rfl (wanted_none rfl) rfl (by decide) (x_assign rfl (h.get 8 102 (by decide) (hneed 8 (by kernel_rfl))))
noncomputable def rt9Ops : Array Oper := findOps 23 ((Try.f53).body.getD (.exit 0))
def rt9Slots : List (Nat × Nat) := [(0, 105), (1, 106), (2, 107), (3, 108), (4, 109), (5, 110), (6, 111), (7, 112), (8, 113), (9, 2)]
def rt9Val (ge g off cap : Nat) (n : Int) (m : Lx.Bs) (a : Ex) (Aa : Option Addr) (ca : Nat) (ta : Lx.Bs) : Nat → Value
  | 0 => .pointer (some ⟨ge, 3, none⟩)
  | 1 => .slice (some ⟨g, off, none⟩) 1 cap
  | 2 => .pointer (some ⟨g, off, none⟩)
  | 3 => .agg #[.int .i64 a.kind, .int .i32 a.n, .string ⟨a.name.toArray⟩, .slice Aa a.sub.length ca]
  | 4 => .string ⟨ta.toArray⟩
  | 5 => .string ⟨(ta ++ [32, 117, 110, 108, 101, 115, 115, 32]).toArray⟩
  | 6 => .pointer (some ⟨ge, 2, none⟩)
  | 7 => .string ⟨m.toArray⟩
  | 8 => .string ⟨((ta ++ [32, 117, 110, 108, 101, 115, 115, 32]) ++ m).toArray⟩
  | _ => .string ⟨((ta ++ [32, 117, 110, 108, 101, 115, 115, 32]) ++ m).toArray⟩
theorem rt9Region {Q : Exit → Act → World → Prop} (a0 : Act) (W0 : World) (hs : 113 < a0.tmps.size) (ge g off cap : Nat) (n : Int) (m : Lx.Bs) (a : Ex) (Aa : Option Addr) (ca : Nat) (ta : Lx.Bs) (m3 : W0.cell? ⟨ge, 3, none⟩ = some (.slice (some ⟨g, off, none⟩) 1 cap)) (m2 : W0.cell? ⟨ge, 2, none⟩ = some (.string ⟨m.toArray⟩)) (hnl : m.length ≤ 16) (ha : W0.cell? ⟨g, off, none⟩ = some (.int .i64 a.kind) ∧ W0.cell? ⟨g, off + 1, none⟩ = some (.int .i32 a.n) ∧ W0.cell? ⟨g, off + 2, none⟩ = some (.string ⟨a.name.toArray⟩) ∧ W0.cell? ⟨g, off + 3, none⟩ = some (.slice Aa a.sub.length ca)) (hca : ∀ W, Below W0.heap.size W0 W → Calls Try.prog 84 #[.agg #[.int .i64 a.kind, .int .i32 a.n, .string ⟨a.name.toArray⟩, .slice Aa a.sub.length ca]] W fun e w' => e = .returned (.string ⟨ta.toArray⟩) ∧ Below W.heap.size W w') (hla : ta.length ≤ 100000)
    (e1 : a0.eval (.tmp 1) = .pointer (some ⟨ge, 0, none⟩))
    (hQ : ∀ w, Below W0.heap.size W0 w → Q .normal (rt9Slots.foldl (fun x p => x.put (some p.2) ((rt9Val ge g off cap n m a Aa ca ta) p.1)) a0) w) :
    wpAny Try.prog .any rt9Ops Q 10 (Array.replicate 10 false) a0 W0.drew := by
  have ok : slotsFix rt9Slots a0.tmps.size = true := by
    have : ∀ z, 113 < z → slotsFix rt9Slots z = true := by
      intro z hz
      simp [slotsFix, rt9Slots]
      omega
    exact this _ hs
  have lge : ge < W0.heap.size := World.block_lt_of_cell? _ _ m3
  have lg : g < W0.heap.size := World.block_lt_of_cell? _ _ ha.1
  refine region_fixed (by kernel_rfl) W0 a0 rt9Slots (rt9Val ge g off cap n m a Aa ca ta) ok (by kernel_rfl) 10 (by kernel_rfl) ?_ hQ
  intro i L a1 w h hi hneed
  rcases (show i = 0 ∨ i = 1 ∨ i = 2 ∨ i = 3 ∨ i = 4 ∨ i = 5 ∨ i = 6 ∨ i = 7 ∨ i = 8 ∨ i = 9 by omega) with rfl | rfl | rfl | rfl | rfl | rfl | rfl | rfl | rfl | rfl
  · exact fix_value (i := 0) (d := 105) rfl (wanted_none rfl) rfl (by decide) (x_field rfl ((h.old rfl).trans e1) (by simp [go_sem]))
  · exact fix_value (i := 1) (d := 106) rfl (wanted_none rfl) rfl (by decide) (x_load rfl (h.get 0 105 (by decide) (hneed 0 (by kernel_rfl))) (by have hh := (h.below.cell (p := ⟨ge, 3, none⟩) lge).trans m3; simp [go_sem, hh]; try rfl))
  · exact fix_value (i := 2) (d := 107) rfl (wanted_none rfl) rfl (by decide) (x_index rfl (h.get 1 106 (by decide) (hneed 1 (by kernel_rfl))) rfl (index_sub0 w g off 1 cap))
  · exact fix_value (i := 3) (d := 108) rfl (wanted_none rfl) rfl (by decide) (x_load rfl (h.get 2 107 (by decide) (hneed 2 (by kernel_rfl))) (by have h0 := (h.below.cell (p := ⟨g, off, none⟩) lg).trans ha.1; have h1 := (h.below.cell (p := ⟨g, off + 1, none⟩) lg).trans ha.2.1; have h2 := (h.below.cell (p := ⟨g, off + 2, none⟩) lg).trans ha.2.2.1; have h3 := (h.below.cell (p := ⟨g, off + 3, none⟩) lg).trans ha.2.2.2; simp [go_sem, h0, h1, h2, h3]; try rfl))
  · refine fix_call (i := 4) (d := 109) 84 Try.f84 #[.tmp 108] _ #[.agg #[.int .i64 a.kind, .int .i32 a.n, .string ⟨a.name.toArray⟩, .slice Aa a.sub.length ca]] rfl (wanted_none rfl) rfl (by decide) rfl (by simp [(h.get 3 108 (by decide) (hneed 3 (by kernel_rfl))), rt9Val]) Try.func84 (by kernel_rfl) (by kernel_rfl) ?_
    exact hca w h.below
  · exact fix_value (i := 5) (d := 110) rfl (wanted_none rfl) rfl (by decide) (x_addstr rfl (h.get 4 109 (by decide) (hneed 4 (by kernel_rfl))) rfl (by simp; omega))
  · exact fix_value (i := 6) (d := 111) rfl (wanted_none rfl) rfl (by decide) (x_field rfl ((h.old rfl).trans e1) (by simp [go_sem]))
  · exact fix_value (i := 7) (d := 112) rfl (wanted_none rfl) rfl (by decide) (x_load rfl (h.get 6 111 (by decide) (hneed 6 (by kernel_rfl))) (by have hh := (h.below.cell (p := ⟨ge, 2, none⟩) lge).trans m2; simp [go_sem, hh]; try rfl))
  · exact fix_value (i := 8) (d := 113) rfl (wanted_none rfl) rfl (by decide) (x_addstr rfl (h.get 5 110 (by decide) (hneed 5 (by kernel_rfl))) (h.get 7 112 (by decide) (hneed 7 (by kernel_rfl))) (by simp; omega))
  · exact fix_value (i := 9) (d := 2) rfl (wanted_none rfl) rfl (by decide) (x_assign rfl (h.get 8 113 (by decide) (hneed 8 (by kernel_rfl))))
noncomputable def rt10Ops : Array Oper := findOps 24 ((Try.f53).body.getD (.exit 0))
def rt10Slots : List (Nat × Nat) := [(0, 114), (1, 115), (2, 116), (3, 117), (4, 118), (5, 119), (6, 120), (7, 121), (8, 122), (9, 123), (10, 124), (11, 125), (12, 126), (13, 127), (14, 128), (15, 129), (16, 130), (17, 2)]
def rt10Val (ge g off cap : Nat) (n : Int) (m : Lx.Bs) (a b : Ex) (Aa Ab : Option Addr) (ca cb : Nat) (ta tb : Lx.Bs) : Nat → Value
  | 0 => .pointer (some ⟨ge, 2, none⟩)
  | 1 => .string ⟨m.toArray⟩
  | 2 => .string ⟨([109, 101, 114, 103, 101, 32] ++ m).toArray⟩
  | 3 => .string ⟨(([109, 101, 114, 103, 101, 32] ++ m) ++ [32]).toArray⟩
  | 4 => .pointer (some ⟨ge, 3, none⟩)
  | 5 => .slice (some ⟨g, off, none⟩) 2 cap
  | 6 => .pointer (some ⟨g, off, none⟩)
  | 7 => .agg #[.int .i64 a.kind, .int .i32 a.n, .string ⟨a.name.toArray⟩, .slice Aa a.sub.length ca]
  | 8 => .string ⟨ta.toArray⟩
  | 9 => .string ⟨((([109, 101, 114, 103, 101, 32] ++ m) ++ [32]) ++ ta).toArray⟩
  | 10 => .string ⟨(((([109, 101, 114, 103, 101, 32] ++ m) ++ [32]) ++ ta) ++ [32]).toArray⟩
  | 11 => .pointer (some ⟨ge, 3, none⟩)
  | 12 => .slice (some ⟨g, off, none⟩) 2 cap
  | 13 => .pointer (some ⟨g, off + 4, none⟩)
  | 14 => .agg #[.int .i64 b.kind, .int .i32 b.n, .string ⟨b.name.toArray⟩, .slice Ab b.sub.length cb]
  | 15 => .string ⟨tb.toArray⟩
  | 16 => .string ⟨((((([109, 101, 114, 103, 101, 32] ++ m) ++ [32]) ++ ta) ++ [32]) ++ tb).toArray⟩
  | _ => .string ⟨((((([109, 101, 114, 103, 101, 32] ++ m) ++ [32]) ++ ta) ++ [32]) ++ tb).toArray⟩
theorem rt10Region {Q : Exit → Act → World → Prop} (a0 : Act) (W0 : World) (hs : 130 < a0.tmps.size) (ge g off cap : Nat) (n : Int) (m : Lx.Bs) (a b : Ex) (Aa Ab : Option Addr) (ca cb : Nat) (ta tb : Lx.Bs) (m3 : W0.cell? ⟨ge, 3, none⟩ = some (.slice (some ⟨g, off, none⟩) 2 cap)) (m2 : W0.cell? ⟨ge, 2, none⟩ = some (.string ⟨m.toArray⟩)) (hnl : m.length ≤ 16) (ha : W0.cell? ⟨g, off, none⟩ = some (.int .i64 a.kind) ∧ W0.cell? ⟨g, off + 1, none⟩ = some (.int .i32 a.n) ∧ W0.cell? ⟨g, off + 2, none⟩ = some (.string ⟨a.name.toArray⟩) ∧ W0.cell? ⟨g, off + 3, none⟩ = some (.slice Aa a.sub.length ca)) (hca : ∀ W, Below W0.heap.size W0 W → Calls Try.prog 84 #[.agg #[.int .i64 a.kind, .int .i32 a.n, .string ⟨a.name.toArray⟩, .slice Aa a.sub.length ca]] W fun e w' => e = .returned (.string ⟨ta.toArray⟩) ∧ Below W.heap.size W w') (hla : ta.length ≤ 100000) (hb : W0.cell? ⟨g, off + 4, none⟩ = some (.int .i64 b.kind) ∧ W0.cell? ⟨g, off + 4 + 1, none⟩ = some (.int .i32 b.n) ∧ W0.cell? ⟨g, off + 4 + 2, none⟩ = some (.string ⟨b.name.toArray⟩) ∧ W0.cell? ⟨g, off + 4 + 3, none⟩ = some (.slice Ab b.sub.length cb)) (hcb : ∀ W, Below W0.heap.size W0 W → Calls Try.prog 84 #[.agg #[.int .i64 b.kind, .int .i32 b.n, .string ⟨b.name.toArray⟩, .slice Ab b.sub.length cb]] W fun e w' => e = .returned (.string ⟨tb.toArray⟩) ∧ Below W.heap.size W w') (hlb : tb.length ≤ 100000)
    (e1 : a0.eval (.tmp 1) = .pointer (some ⟨ge, 0, none⟩))
    (hQ : ∀ w, Below W0.heap.size W0 w → Q .normal (rt10Slots.foldl (fun x p => x.put (some p.2) ((rt10Val ge g off cap n m a b Aa Ab ca cb ta tb) p.1)) a0) w) :
    wpAny Try.prog .any rt10Ops Q 18 (Array.replicate 18 false) a0 W0.drew := by
  have ok : slotsFix rt10Slots a0.tmps.size = true := by
    have : ∀ z, 130 < z → slotsFix rt10Slots z = true := by
      intro z hz
      simp [slotsFix, rt10Slots]
      omega
    exact this _ hs
  have lge : ge < W0.heap.size := World.block_lt_of_cell? _ _ m3
  have lg : g < W0.heap.size := World.block_lt_of_cell? _ _ ha.1
  refine region_fixed (by kernel_rfl) W0 a0 rt10Slots (rt10Val ge g off cap n m a b Aa Ab ca cb ta tb) ok (by kernel_rfl) 18 (by kernel_rfl) ?_ hQ
  intro i L a1 w h hi hneed
  rcases (show i = 0 ∨ i = 1 ∨ i = 2 ∨ i = 3 ∨ i = 4 ∨ i = 5 ∨ i = 6 ∨ i = 7 ∨ i = 8 ∨ i = 9 ∨ i = 10 ∨ i = 11 ∨ i = 12 ∨ i = 13 ∨ i = 14 ∨ i = 15 ∨ i = 16 ∨ i = 17 by omega) with rfl | rfl | rfl | rfl | rfl | rfl | rfl | rfl | rfl | rfl | rfl | rfl | rfl | rfl | rfl | rfl | rfl | rfl
  · exact fix_value (i := 0) (d := 114) rfl (wanted_none rfl) rfl (by decide) (x_field rfl ((h.old rfl).trans e1) (by simp [go_sem]))
  · exact fix_value (i := 1) (d := 115) rfl (wanted_none rfl) rfl (by decide) (x_load rfl (h.get 0 114 (by decide) (hneed 0 (by kernel_rfl))) (by have hh := (h.below.cell (p := ⟨ge, 2, none⟩) lge).trans m2; simp [go_sem, hh]; try rfl))
  · exact fix_value (i := 2) (d := 116) rfl (wanted_none rfl) rfl (by decide) (x_addstr rfl rfl (h.get 1 115 (by decide) (hneed 1 (by kernel_rfl))) (by simp; omega))
  · exact fix_value (i := 3) (d := 117) rfl (wanted_none rfl) rfl (by decide) (x_addstr rfl (h.get 2 116 (by decide) (hneed 2 (by kernel_rfl))) rfl (by simp; omega))
  · exact fix_value (i := 4) (d := 118) rfl (wanted_none rfl) rfl (by decide) (x_field rfl ((h.old rfl).trans e1) (by simp [go_sem]))
  · exact fix_value (i := 5) (d := 119) rfl (wanted_none rfl) rfl (by decide) (x_load rfl (h.get 4 118 (by decide) (hneed 4 (by kernel_rfl))) (by have hh := (h.below.cell (p := ⟨ge, 3, none⟩) lge).trans m3; simp [go_sem, hh]; try rfl))
  · exact fix_value (i := 6) (d := 120) rfl (wanted_none rfl) rfl (by decide) (x_index rfl (h.get 5 119 (by decide) (hneed 5 (by kernel_rfl))) rfl (index_sub0 w g off 2 cap))
  · exact fix_value (i := 7) (d := 121) rfl (wanted_none rfl) rfl (by decide) (x_load rfl (h.get 6 120 (by decide) (hneed 6 (by kernel_rfl))) (by have h0 := (h.below.cell (p := ⟨g, off, none⟩) lg).trans ha.1; have h1 := (h.below.cell (p := ⟨g, off + 1, none⟩) lg).trans ha.2.1; have h2 := (h.below.cell (p := ⟨g, off + 2, none⟩) lg).trans ha.2.2.1; have h3 := (h.below.cell (p := ⟨g, off + 3, none⟩) lg).trans ha.2.2.2; simp [go_sem, h0, h1, h2, h3]; try rfl))
  · refine fix_call (i := 8) (d := 122) 84 Try.f84 #[.tmp 121] _ #[.agg #[.int .i64 a.kind, .int .i32 a.n, .string ⟨a.name.toArray⟩, .slice Aa a.sub.length ca]] rfl (wanted_none rfl) rfl (by decide) rfl (by simp [(h.get 7 121 (by decide) (hneed 7 (by kernel_rfl))), rt10Val]) Try.func84 (by kernel_rfl) (by kernel_rfl) ?_
    exact hca w h.below
  · exact fix_value (i := 9) (d := 123) rfl (wanted_none rfl) rfl (by decide) (x_addstr rfl (h.get 3 117 (by decide) (hneed 3 (by kernel_rfl))) (h.get 8 122 (by decide) (hneed 8 (by kernel_rfl))) (by simp; omega))
  · exact fix_value (i := 10) (d := 124) rfl (wanted_none rfl) rfl (by decide) (x_addstr rfl (h.get 9 123 (by decide) (hneed 9 (by kernel_rfl))) rfl (by simp; omega))
  · exact fix_value (i := 11) (d := 125) rfl (wanted_none rfl) rfl (by decide) (x_field rfl ((h.old rfl).trans e1) (by simp [go_sem]))
  · exact fix_value (i := 12) (d := 126) rfl (wanted_none rfl) rfl (by decide) (x_load rfl (h.get 11 125 (by decide) (hneed 11 (by kernel_rfl))) (by have hh := (h.below.cell (p := ⟨ge, 3, none⟩) lge).trans m3; simp [go_sem, hh]; try rfl))
  · exact fix_value (i := 13) (d := 127) rfl (wanted_none rfl) rfl (by decide) (x_index rfl (h.get 12 126 (by decide) (hneed 12 (by kernel_rfl))) rfl (index_sub1 w g off 2 cap))
  · exact fix_value (i := 14) (d := 128) rfl (wanted_none rfl) rfl (by decide) (x_load rfl (h.get 13 127 (by decide) (hneed 13 (by kernel_rfl))) (by have h0 := (h.below.cell (p := ⟨g, off + 4, none⟩) lg).trans hb.1; have h1 := (h.below.cell (p := ⟨g, off + 4 + 1, none⟩) lg).trans hb.2.1; have h2 := (h.below.cell (p := ⟨g, off + 4 + 2, none⟩) lg).trans hb.2.2.1; have h3 := (h.below.cell (p := ⟨g, off + 4 + 3, none⟩) lg).trans hb.2.2.2; simp [go_sem, h0, h1, h2, h3]; try rfl))
  · refine fix_call (i := 15) (d := 129) 84 Try.f84 #[.tmp 128] _ #[.agg #[.int .i64 b.kind, .int .i32 b.n, .string ⟨b.name.toArray⟩, .slice Ab b.sub.length cb]] rfl (wanted_none rfl) rfl (by decide) rfl (by simp [(h.get 14 128 (by decide) (hneed 14 (by kernel_rfl))), rt10Val]) Try.func84 (by kernel_rfl) (by kernel_rfl) ?_
    exact hcb w h.below
  · exact fix_value (i := 16) (d := 130) rfl (wanted_none rfl) rfl (by decide) (x_addstr rfl (h.get 10 124 (by decide) (hneed 10 (by kernel_rfl))) (h.get 15 129 (by decide) (hneed 15 (by kernel_rfl))) (by simp; omega))
  · exact fix_value (i := 17) (d := 2) rfl (wanted_none rfl) rfl (by decide) (x_assign rfl (h.get 16 130 (by decide) (hneed 16 (by kernel_rfl))))
end Go.Proofs.Ytilkilffkjhhbaa
namespace Go.Proofs.Ytilkilffkjhhbaa
set_option maxRecDepth 20000
set_option linter.unusedVariables false
open Go.RowKit Tr Mem
attribute [local go_sem] ba_append ba_get

set_option maxHeartbeats 4000000 in
theorem refpart_of {B : Nat → Prop} {x : Ex} {A : Option Addr} {cap : Nat} (h : ShowSaid 53 text B x A cap) (hl : (text x).length ≤ 100000) : ShowSaid 84 Tr.part B x A cap := by
  intro w hA
  have H := Lib.hid h
  have HA := Lib.hid hA
  have hp : Tr.part x = if bare x.kind = true then text x else [40] ++ text x ++ [41] := rfl
  rw [hp]
  clear h hA hp
  have HW0 := Lib.hid (fun V => (Below.refl w.heap.size w).alloc (Nat.le_refl _) V)
  obtain ⟨k, n, m, s⟩ := x
  have hkk : Ex.kind (.mk k n m s) = k := rfl
  rw [hkk]
  have HC : Hid (∀ W, At W B (.mk k n m s) A → Calls Try.prog 53 #[.agg #[.int .i64 k, .int .i32 n, .string ⟨m.toArray⟩, .slice A s.length cap]] W fun e w' => e = .returned (.string ⟨(text (.mk k n m s)).toArray⟩) ∧ Below W.heap.size W w') := H.out
  unfold exAgg
  dsimp only [Ex.kind, Ex.n, Ex.name, Ex.sub]
  generalize hxx : Ex.mk k n m s = x at *
  clear H hkk hxx
  generalize text x = tx at *
  rcases bare_kinds k with hk | ⟨h1, h2, h3, h8, h9⟩
  · have hb : bare k = true := by rcases hk with rfl | rfl | rfl | rfl | rfl <;> rfl
    rw [if_pos hb]
    clear hb
    rcases hk with rfl | rfl | rfl | rfl | rfl
    all_goals
      go_enter Try.func84, Try.ntmps84
      go_wp2_with fail
      refine (HC.out _ (HA.out.below (HW0.out _) (Nat.le_refl _))).mono ?_
      rintro e w1 ⟨rfl, hb1⟩
      have HB := Lib.hid ((HW0.out _).trans (hb1.mono (by simp)))
      clear hb1
      go_wp2_with fail
      go_ret
      exact ⟨rfl, HB.out⟩
  · have hb : bare k = false := by unfold bare; rw [h1, h2, h3, h8, h9]; rfl
    rw [if_neg (by rw [hb]; decide)]
    clear hb
    go_enter Try.func84, Try.ntmps84
    go_wp2_with fail
    refine (HC.out _ (HA.out.below (HW0.out _) (Nat.le_refl _))).mono ?_
    rintro e w1 ⟨rfl, hb1⟩
    have HB := Lib.hid ((HW0.out _).trans (hb1.mono (by simp)))
    clear hb1
    go_wp2_with fail
    go_ret
    exact ⟨by simp, HB.out⟩
/-- what the walk needs of the parts: the cells, kept from a world on -/
theorem AtL.cells {w : World} {B : Nat → Prop} {s : List Ex} {A : Option Addr} (h : AtL w B s A) (i : Nat) (hi : i < s.length) : ∃ b off A' c', A = some ⟨b, off, none⟩ ∧ (∀ W, Below w.heap.size w W → W.cell? ⟨b, off + i * 4, none⟩ = some (.int .i64 (s[i]'hi).kind) ∧
      W.cell? ⟨b, off + i * 4 + 1, none⟩ = some (.int .i32 (s[i]'hi).n) ∧ W.cell? ⟨b, off + i * 4 + 2, none⟩ = some (.string ⟨(s[i]'hi).name.toArray⟩) ∧ W.cell? ⟨b, off + i * 4 + 3, none⟩ = some (.slice A' (s[i]'hi).sub.length c') ∧ At W B (s[i]'hi) A') := by
  obtain ⟨b, off, rfl, -, c0, c1, c2, A', c', c3, hx⟩ := h.get i hi
  have hbl := World.block_lt_of_cell? _ _ c0
  simp only at hbl
  exact ⟨b, off, A', c', rfl, fun W hb => ⟨(hb.cell (p := ⟨b, off + i * 4, none⟩) hbl).trans c0, (hb.cell (p := ⟨b, off + i * 4 + 1, none⟩) hbl).trans c1, (hb.cell (p := ⟨b, off + i * 4 + 2, none⟩) hbl).trans c2, (hb.cell (p := ⟨b, off + i * 4 + 3, none⟩) hbl).trans c3, hx.below hb (Nat.le_refl _)⟩⟩
set_option maxRecDepth 100000 in
set_option maxHeartbeats 8000000 in
theorem reftext_any (B : Nat → Prop) : ∀ (c : Nat) (x : Ex), size x ≤ c → size x ≤ 1000 → formed x = true → Fit x → ∀ (A : Option Addr) (cap : Nat), ShowSaid 53 text B x A cap := by
  intro c
  induction c with
  | zero => intro x h; have := size_pos x; omega
  | succ c ih =>
    intro x hc hlim hfm hfit A cap w hA
    have htl := text_len x hfm
    obtain ⟨k, n, m, s⟩ := x
    rw [at_eq] at hA
    rw [fit_eq] at hfit
    rw [size_eq] at hc hlim htl
    have HFC := Lib.hid (formed_cases hfm)
    have HFS : Hid (formeds s = true) := by rw [formed_eq, Bool.and_eq_true] at hfm; exact hfm.2
    have HA := Lib.hid hA
    have HM := Lib.hid hfit.2.1
    have HF := Lib.hid hfit.2.2.2
    have IH := Lib.hid ih
    obtain ⟨r, hr⟩ : ∃ r, r = text (.mk k n m s) := ⟨_, rfl⟩
    rw [← hr] at htl ⊢
    have HR := Lib.hid hr
    clear hA hfit ih hfm hr
    unfold exAgg
    dsimp only [Ex.kind, Ex.n, Ex.name, Ex.sub]
    have HW0 := Lib.hid (fun V => (Below.refl w.heap.size w).alloc (Nat.le_refl _) V)
    rcases HFC.out with ⟨rfl, rfl, h1, rfl⟩ | ⟨rfl, rfl, h1, rfl⟩ | ⟨rfl, rfl, rfl, h1⟩ | ⟨rfl, ⟨a, rfl⟩, h1, rfl⟩ | ⟨rfl, ⟨a, b, rfl⟩, h1, rfl⟩ | ⟨rfl, ⟨a, b, c, rfl⟩, rfl, rfl⟩ | ⟨rfl, ⟨a, b, rfl⟩, rfl, rfl⟩ | ⟨rfl, ⟨a, rfl⟩, rfl, h1⟩ | ⟨rfl, ⟨a, rfl⟩, rfl, h1⟩ | ⟨rfl, ⟨a, b, rfl⟩, rfl, h1⟩
    · clear HFC
      obtain ⟨h1a, h1b⟩ := h1
      obtain ⟨a, rfl⟩ := Int.eq_ofNat_of_zero_le h1a
      go_enter Try.func53, Try.ntmps53
      go_wp2_with fail
      refine (refdigits a (by omega) _).mono ?_
      rintro e w1 ⟨rfl, hb1⟩
      have HB1 := Lib.hid ((HW0.out _).trans (hb1.mono (by simp)))
      clear hb1
      go_wp2_with fail
      go_ret
      exact ⟨ret_str (by rw [HR.out, text_num]), HB1.out⟩
    · clear HFC
      rcases h1 with rfl | rfl
      · go_enter Try.func53, Try.ntmps53
        go_wp2_with fail
        go_ret
        exact ⟨ret_str (by rw [HR.out, text_bool0]; rfl), HW0.out _⟩
      · go_enter Try.func53, Try.ntmps53
        go_wp2_with fail
        go_ret
        exact ⟨ret_str (by rw [HR.out, text_bool1]; rfl), HW0.out _⟩
    · clear HFC
      go_enter Try.func53, Try.ntmps53
      go_wp2_with fail
      go_ret
      exact ⟨ret_str (by rw [HR.out, text_var]), HW0.out _⟩
    · clear HFC
      obtain ⟨g, off, Aa, ca, rfl, hca⟩ := HA.out.cells 0 (by simp)
      simp only [List.getElem_cons_zero, Nat.zero_mul, Nat.add_zero] at hca
      have hsa := size_mem (x := a) (s := [a]) (by simp)
      have hfa := formeds_mem (x := a) HFS.out (by simp)
      have hta := text_len a hfa
      have hpa := part_len a
      obtain ⟨ta, hta2⟩ : ∃ ta, ta = Tr.part a := ⟨_, rfl⟩
      have HCa : Hid (∀ W, At W B a Aa → Calls Try.prog 84 #[.agg #[.int .i64 a.kind, .int .i32 a.n, .string ⟨a.name.toArray⟩, .slice Aa a.sub.length ca]] W fun e w' => e = .returned (.string ⟨ta.toArray⟩) ∧ Below W.heap.size W w') := by rw [hta2]; exact refpart_of (IH.out a (by omega) (by omega) hfa (HF.out.mem (by simp)) Aa ca) (by omega)
      have hla : ta.length ≤ 100000 := by rw [hta2]; omega
      have HTa := Lib.hid hta2
      have HXa := Lib.hid hca
      clear hsa hfa hta hta2 hca hpa
      rcases h1 with rfl | rfl
      · obtain ⟨x0, x1, x2, x3, xa⟩ := HXa.out _ (HW0.out (.cells #[.int .i64 4, .int .i32 1, .string ⟨#[]⟩, .slice (some ⟨g, off, none⟩) 1 cap] 43))
        have HAa := Lib.hid xa
        clear xa
        obtain ⟨y0, y1, y2, y3, _⟩ := HXa.out _ (Below.refl _ _)
        go_enter Try.func53, Try.ntmps53
        go_wp2_with fail
        refine (HCa.out _ HAa.out).mono ?_
        rintro e w1 ⟨rfl, hb1⟩
        have HB1 := Lib.hid ((HW0.out _).trans (hb1.mono (by simp)))
        clear hb1
        go_wp2_with fail
        go_ret
        exact ⟨ret_str (by rw [HR.out, text_neg, HTa.out]; simp), HB1.out⟩
      · obtain ⟨x0, x1, x2, x3, xa⟩ := HXa.out _ (HW0.out (.cells #[.int .i64 4, .int .i32 2, .string ⟨#[]⟩, .slice (some ⟨g, off, none⟩) 1 cap] 43))
        have HAa := Lib.hid xa
        clear xa
        obtain ⟨y0, y1, y2, y3, _⟩ := HXa.out _ (Below.refl _ _)
        go_enter Try.func53, Try.ntmps53
        go_wp2_with fail
        refine (HCa.out _ HAa.out).mono ?_
        rintro e w1 ⟨rfl, hb1⟩
        have HB1 := Lib.hid ((HW0.out _).trans (hb1.mono (by simp)))
        clear hb1
        go_wp2_with fail
        go_ret
        exact ⟨ret_str (by rw [HR.out, text_not, HTa.out]; simp [sp, wNot]), HB1.out⟩
    · clear HFC
      obtain ⟨g, off, Aa, ca, rfl, hca⟩ := HA.out.cells 0 (by simp)
      obtain ⟨g1, off1, Ab, cb, hgg, hcb⟩ := HA.out.cells 1 (by simp)
      obtain ⟨rfl, rfl⟩ : g = g1 ∧ off = off1 := by injection hgg with hgg; injection hgg; exact ⟨by assumption, by assumption⟩
      clear hgg
      simp only [List.getElem_cons_zero, List.getElem_cons_succ, Nat.zero_mul, Nat.one_mul, Nat.add_zero] at hca hcb
      have hsa := size_mem (x := a) (s := [a, b]) (by simp)
      have hfa := formeds_mem (x := a) HFS.out (by simp)
      have hta := text_len a hfa
      have hpa := part_len a
      obtain ⟨ta, hta2⟩ : ∃ ta, ta = Tr.part a := ⟨_, rfl⟩
      have HCa : Hid (∀ W, At W B a Aa → Calls Try.prog 84 #[.agg #[.int .i64 a.kind, .int .i32 a.n, .string ⟨a.name.toArray⟩, .slice Aa a.sub.length ca]] W fun e w' => e = .returned (.string ⟨ta.toArray⟩) ∧ Below W.heap.size W w') := by rw [hta2]; exact refpart_of (IH.out a (by omega) (by omega) hfa (HF.out.mem (by simp)) Aa ca) (by omega)
      have hla : ta.length ≤ 100000 := by rw [hta2]; omega
      have HTa := Lib.hid hta2
      have HXa := Lib.hid hca
      clear hsa hfa hta hta2 hca hpa
      have hsb := size_mem (x := b) (s := [a, b]) (by simp)
      have hfb := formeds_mem (x := b) HFS.out (by simp)
      have htb := text_len b hfb
      have hpb := part_len b
      obtain ⟨tb, htb2⟩ : ∃ tb, tb = Tr.part b := ⟨_, rfl⟩
      have HCb : Hid (∀ W, At W B b Ab → Calls Try.prog 84 #[.agg #[.int .i64 b.kind, .int .i32 b.n, .string ⟨b.name.toArray⟩, .slice Ab b.sub.length cb]] W fun e w' => e = .returned (.string ⟨tb.toArray⟩) ∧ Below W.heap.size W w') := by rw [htb2]; exact refpart_of (IH.out b (by omega) (by omega) hfb (HF.out.mem (by simp)) Ab cb) (by omega)
      have hlb : tb.length ≤ 100000 := by rw [htb2]; omega
      have HTb := Lib.hid htb2
      have HXb := Lib.hid hcb
      clear hsb hfb htb htb2 hcb hpb
      have hml := opm_len n
      obtain ⟨mm, hmm⟩ : ∃ mm, mm = opm n := ⟨_, rfl⟩
      rw [← hmm] at hml
      obtain ⟨h1a, h1b⟩ := h1
      have HMK : Hid (∀ W, Calls Try.prog 25 #[.int .i64 n] W fun e w' => e = .returned (.string ⟨mm.toArray⟩) ∧ Below W.heap.size W w') := fun W => by rw [hmm]; exact refops n h1a h1b W
      have HMM := Lib.hid hmm
      clear hmm
      go_enter Try.func53, Try.ntmps53
      go_wp2_with fail
      obtain ⟨W0, hW0⟩ : ∃ W0, W0 = w.alloc (.cells #[.int .i64 5, .int .i32 n, .string ⟨#[]⟩, .slice (some ⟨g, off, none⟩) 2 cap] 43) := ⟨_, rfl⟩
      rw [← hW0]
      have hbw : Below w.heap.size w W0 := by rw [hW0]; exact HW0.out _
      have m3 : W0.cell? ⟨w.heap.size, 3, none⟩ = some (.slice (some ⟨g, off, none⟩) 2 cap) := by rw [hW0]; simp [go_sem]
      have m1 : W0.cell? ⟨w.heap.size, 1, none⟩ = some (.int .i32 n) := by rw [hW0]; simp [go_sem]
      clear hW0
      obtain ⟨x0a, x1a, x2a, x3a, _⟩ := HXa.out W0 hbw
      obtain ⟨x0b, x1b, x2b, x3b, _⟩ := HXb.out W0 hbw
      refine wp_region_any (by kernel_rfl) ?_
      refine wpAny_by (ops' := rt5Ops) (by kernel_rfl) ?_
      refine rt5Region _ W0 ?hs w.heap.size g off cap n [] mm a b Aa Ab ca cb ta tb m3 m1 h1a h1b HMK.out hml ⟨x0a, x1a, x2a, x3a⟩ (fun W hW => HCa.out W (HXa.out W (hbw.trans (hW.mono hbw.size))).2.2.2.2) hla ⟨x0b, x1b, x2b, x3b⟩ (fun W hW => HCb.out W (HXb.out W (hbw.trans (hW.mono hbw.size))).2.2.2.2) hlb rfl ?_
      case hs => simp
      intro w5 hb5
      simp only [rt5Slots, List.foldl_cons, List.foldl_nil]
      simp only [rt5Val]
      simp only [Act.put, List.setIfInBounds_toArray, List.set_cons_zero, List.set_cons_succ]
      have HB5 := Lib.hid (hbw.trans (hb5.mono hbw.size))
      clear hb5 hbw
      go_wp2_with fail
      go_ret
      exact ⟨ret_str (by rw [HR.out, text_bin, HTa.out, HTb.out, HMM.out]; simp [sp]), HB5.out⟩
    · clear HFC
      obtain ⟨g, off, Aa, ca, rfl, hca⟩ := HA.out.cells 0 (by simp)
      obtain ⟨g1, off1, Ab, cb, hgg, hcb⟩ := HA.out.cells 1 (by simp)
      obtain ⟨rfl, rfl⟩ : g = g1 ∧ off = off1 := by injection hgg with hgg; injection hgg; exact ⟨by assumption, by assumption⟩
      clear hgg
      obtain ⟨g2, off2, Ac, cc, hgg, hcc⟩ := HA.out.cells 2 (by simp)
      obtain ⟨rfl, rfl⟩ : g = g2 ∧ off = off2 := by injection hgg with hgg; injection hgg; exact ⟨by assumption, by assumption⟩
      clear hgg
      simp only [List.getElem_cons_zero, List.getElem_cons_succ, Nat.zero_mul, Nat.one_mul, Nat.add_zero, Nat.reduceMul] at hca hcb hcc
      have hsa := size_mem (x := a) (s := [a, b, c]) (by simp)
      have hfa := formeds_mem (x := a) HFS.out (by simp)
      have hta := text_len a hfa
      obtain ⟨ta, hta2⟩ : ∃ ta, ta = text a := ⟨_, rfl⟩
      have HCa : Hid (∀ W, At W B a Aa → Calls Try.prog 53 #[.agg #[.int .i64 a.kind, .int .i32 a.n, .string ⟨a.name.toArray⟩, .slice Aa a.sub.length ca]] W fun e w' => e = .returned (.string ⟨ta.toArray⟩) ∧ Below W.heap.size W w') := by rw [hta2]; exact IH.out a (by omega) (by omega) hfa (HF.out.mem (by simp)) Aa ca
      have hla : ta.length ≤ 100000 := by rw [hta2]; omega
      have HTa := Lib.hid hta2
      have HXa := Lib.hid hca
      clear hsa hfa hta hta2 hca
      have hsb := size_mem (x := b) (s := [a, b, c]) (by simp)
      have hfb := formeds_mem (x := b) HFS.out (by simp)
      have htb := text_len b hfb
      obtain ⟨tb, htb2⟩ : ∃ tb, tb = text b := ⟨_, rfl⟩
      have HCb : Hid (∀ W, At W B b Ab → Calls Try.prog 53 #[.agg #[.int .i64 b.kind, .int .i32 b.n, .string ⟨b.name.toArray⟩, .slice Ab b.sub.length cb]] W fun e w' => e = .returned (.string ⟨tb.toArray⟩) ∧ Below W.heap.size W w') := by rw [htb2]; exact IH.out b (by omega) (by omega) hfb (HF.out.mem (by simp)) Ab cb
      have hlb : tb.length ≤ 100000 := by rw [htb2]; omega
      have HTb := Lib.hid htb2
      have HXb := Lib.hid hcb
      clear hsb hfb htb htb2 hcb
      have hsc := size_mem (x := c) (s := [a, b, c]) (by simp)
      have hfc := formeds_mem (x := c) HFS.out (by simp)
      have htc := text_len c hfc
      obtain ⟨tc, htc2⟩ : ∃ tc, tc = text c := ⟨_, rfl⟩
      have HCc : Hid (∀ W, At W B c Ac → Calls Try.prog 53 #[.agg #[.int .i64 c.kind, .int .i32 c.n, .string ⟨c.name.toArray⟩, .slice Ac c.sub.length cc]] W fun e w' => e = .returned (.string ⟨tc.toArray⟩) ∧ Below W.heap.size W w') := by rw [htc2]; exact IH.out c (by omega) (by omega) hfc (HF.out.mem (by simp)) Ac cc
      have hlc : tc.length ≤ 100000 := by rw [htc2]; omega
      have HTc := Lib.hid htc2
      have HXc := Lib.hid hcc
      clear hsc hfc htc htc2 hcc
      go_enter Try.func53, Try.ntmps53
      go_wp2_with fail
      obtain ⟨W0, hW0⟩ : ∃ W0, W0 = w.alloc (.cells #[.int .i64 6, .int .i32 0, .string ⟨#[]⟩, .slice (some ⟨g, off, none⟩) 3 cap] 43) := ⟨_, rfl⟩
      rw [← hW0]
      have hbw : Below w.heap.size w W0 := by rw [hW0]; exact HW0.out _
      have m3 : W0.cell? ⟨w.heap.size, 3, none⟩ = some (.slice (some ⟨g, off, none⟩) 3 cap) := by rw [hW0]; simp [go_sem]
      clear hW0
      obtain ⟨x0a, x1a, x2a, x3a, _⟩ := HXa.out W0 hbw
      obtain ⟨x0b, x1b, x2b, x3b, _⟩ := HXb.out W0 hbw
      obtain ⟨x0c, x1c, x2c, x3c, _⟩ := HXc.out W0 hbw
      refine wp_region_any (by kernel_rfl) ?_
      refine wpAny_by (ops' := rt6Ops) (by kernel_rfl) ?_
      refine rt6Region _ W0 ?hs w.heap.size g off cap 0 [] a b c Aa Ab Ac ca cb cc ta tb tc m3 ⟨x0a, x1a, x2a, x3a⟩ (fun W hW => HCa.out W (HXa.out W (hbw.trans (hW.mono hbw.size))).2.2.2.2) hla ⟨x0b, x1b, x2b, x3b⟩ (fun W hW => HCb.out W (HXb.out W (hbw.trans (hW.mono hbw.size))).2.2.2.2) hlb ⟨x0c, x1c, x2c, x3c⟩ (fun W hW => HCc.out W (HXc.out W (hbw.trans (hW.mono hbw.size))).2.2.2.2) hlc rfl ?_
      case hs => simp
      intro w5 hb5
      simp only [rt6Slots, List.foldl_cons, List.foldl_nil]
      simp only [rt6Val]
      simp only [Act.put, List.setIfInBounds_toArray, List.set_cons_zero, List.set_cons_succ]
      have HB5 := Lib.hid (hbw.trans (hb5.mono hbw.size))
      clear hb5 hbw
      go_wp2_with fail
      go_ret
      exact ⟨ret_str (by rw [HR.out, text_if, HTa.out, HTb.out, HTc.out]; simp [sp, wIf, wThen, wElse]), HB5.out⟩
    · clear HFC
      obtain ⟨g, off, Aa, ca, rfl, hca⟩ := HA.out.cells 0 (by simp)
      obtain ⟨g1, off1, Ab, cb, hgg, hcb⟩ := HA.out.cells 1 (by simp)
      obtain ⟨rfl, rfl⟩ : g = g1 ∧ off = off1 := by injection hgg with hgg; injection hgg; exact ⟨by assumption, by assumption⟩
      clear hgg
      simp only [List.getElem_cons_zero, List.getElem_cons_succ, Nat.zero_mul, Nat.one_mul, Nat.add_zero] at hca hcb
      have hsa := size_mem (x := a) (s := [a, b]) (by simp)
      have hfa := formeds_mem (x := a) HFS.out (by simp)
      have hta := text_len a hfa
      have hpa := part_len a
      obtain ⟨ta, hta2⟩ : ∃ ta, ta = Tr.part a := ⟨_, rfl⟩
      have HCa : Hid (∀ W, At W B a Aa → Calls Try.prog 84 #[.agg #[.int .i64 a.kind, .int .i32 a.n, .string ⟨a.name.toArray⟩, .slice Aa a.sub.length ca]] W fun e w' => e = .returned (.string ⟨ta.toArray⟩) ∧ Below W.heap.size W w') := by rw [hta2]; exact refpart_of (IH.out a (by omega) (by omega) hfa (HF.out.mem (by simp)) Aa ca) (by omega)
      have hla : ta.length ≤ 100000 := by rw [hta2]; omega
      have HTa := Lib.hid hta2
      have HXa := Lib.hid hca
      clear hsa hfa hta hta2 hca hpa
      have hsb := size_mem (x := b) (s := [a, b]) (by simp)
      have hfb := formeds_mem (x := b) HFS.out (by simp)
      have htb := text_len b hfb
      have hpb := part_len b
      obtain ⟨tb, htb2⟩ : ∃ tb, tb = Tr.part b := ⟨_, rfl⟩
      have HCb : Hid (∀ W, At W B b Ab → Calls Try.prog 84 #[.agg #[.int .i64 b.kind, .int .i32 b.n, .string ⟨b.name.toArray⟩, .slice Ab b.sub.length cb]] W fun e w' => e = .returned (.string ⟨tb.toArray⟩) ∧ Below W.heap.size W w') := by rw [htb2]; exact refpart_of (IH.out b (by omega) (by omega) hfb (HF.out.mem (by simp)) Ab cb) (by omega)
      have hlb : tb.length ≤ 100000 := by rw [htb2]; omega
      have HTb := Lib.hid htb2
      have HXb := Lib.hid hcb
      clear hsb hfb htb htb2 hcb hpb
      go_enter Try.func53, Try.ntmps53
      go_wp2_with fail
      obtain ⟨W0, hW0⟩ : ∃ W0, W0 = w.alloc (.cells #[.int .i64 7, .int .i32 0, .string ⟨#[]⟩, .slice (some ⟨g, off, none⟩) 2 cap] 43) := ⟨_, rfl⟩
      rw [← hW0]
      have hbw : Below w.heap.size w W0 := by rw [hW0]; exact HW0.out _
      have m3 : W0.cell? ⟨w.heap.size, 3, none⟩ = some (.slice (some ⟨g, off, none⟩) 2 cap) := by rw [hW0]; simp [go_sem]
      clear hW0
      obtain ⟨x0a, x1a, x2a, x3a, _⟩ := HXa.out W0 hbw
      obtain ⟨x0b, x1b, x2b, x3b, _⟩ := HXb.out W0 hbw
      refine wp_region_any (by kernel_rfl) ?_
      refine wpAny_by (ops' := rt7Ops) (by kernel_rfl) ?_
      refine rt7Region _ W0 ?hs w.heap.size g off cap 0 [] a b Aa Ab ca cb ta tb m3 ⟨x0a, x1a, x2a, x3a⟩ (fun W hW => HCa.out W (HXa.out W (hbw.trans (hW.mono hbw.size))).2.2.2.2) hla ⟨x0b, x1b, x2b, x3b⟩ (fun W hW => HCb.out W (HXb.out W (hbw.trans (hW.mono hbw.size))).2.2.2.2) hlb rfl ?_
      case hs => simp
      intro w5 hb5
      simp only [rt7Slots, List.foldl_cons, List.foldl_nil]
      simp only [rt7Val]
      simp only [Act.put, List.setIfInBounds_toArray, List.set_cons_zero, List.set_cons_succ]
      have HB5 := Lib.hid (hbw.trans (hb5.mono hbw.size))
      clear hb5 hbw
      go_wp2_with fail
      go_ret
      exact ⟨ret_str (by rw [HR.out, text_arrow, HTa.out, HTb.out]; simp [sp, arrow]), HB5.out⟩
    · clear HFC
      obtain ⟨g, off, Aa, ca, rfl, hca⟩ := HA.out.cells 0 (by simp)
      simp only [List.getElem_cons_zero, Nat.zero_mul, Nat.add_zero] at hca
      have hsa := size_mem (x := a) (s := [a]) (by simp)
      have hfa := formeds_mem (x := a) HFS.out (by simp)
      have hta := text_len a hfa
      have hpa := part_len a
      obtain ⟨ta, hta2⟩ : ∃ ta, ta = Tr.part a := ⟨_, rfl⟩
      have HCa : Hid (∀ W, At W B a Aa → Calls Try.prog 84 #[.agg #[.int .i64 a.kind, .int .i32 a.n, .string ⟨a.name.toArray⟩, .slice Aa a.sub.length ca]] W fun e w' => e = .returned (.string ⟨ta.toArray⟩) ∧ Below W.heap.size W w') := by rw [hta2]; exact refpart_of (IH.out a (by omega) (by omega) hfa (HF.out.mem (by simp)) Aa ca) (by omega)
      have hla : ta.length ≤ 100000 := by rw [hta2]; omega
      have HTa := Lib.hid hta2
      have HXa := Lib.hid hca
      clear hsa hfa hta hta2 hca hpa
      have hnl := name_len h1
      go_enter Try.func53, Try.ntmps53
      go_wp2_with fail
      obtain ⟨W0, hW0⟩ : ∃ W0, W0 = w.alloc (.cells #[.int .i64 8, .int .i32 0, .string ⟨m.toArray⟩, .slice (some ⟨g, off, none⟩) 1 cap] 43) := ⟨_, rfl⟩
      rw [← hW0]
      have hbw : Below w.heap.size w W0 := by rw [hW0]; exact HW0.out _
      have m3 : W0.cell? ⟨w.heap.size, 3, none⟩ = some (.slice (some ⟨g, off, none⟩) 1 cap) := by rw [hW0]; simp [go_sem]
      have m2 : W0.cell? ⟨w.heap.size, 2, none⟩ = some (.string ⟨m.toArray⟩) := by rw [hW0]; simp [go_sem]
      clear hW0
      obtain ⟨x0a, x1a, x2a, x3a, _⟩ := HXa.out W0 hbw
      refine wp_region_any (by kernel_rfl) ?_
      refine wpAny_by (ops' := rt8Ops) (by kernel_rfl) ?_
      refine rt8Region _ W0 ?hs w.heap.size g off cap 0 m a Aa ca ta m3 m2 hnl ⟨x0a, x1a, x2a, x3a⟩ (fun W hW => HCa.out W (HXa.out W (hbw.trans (hW.mono hbw.size))).2.2.2.2) hla rfl ?_
      case hs => simp
      intro w5 hb5
      simp only [rt8Slots, List.foldl_cons, List.foldl_nil]
      simp only [rt8Val]
      simp only [Act.put, List.setIfInBounds_toArray, List.set_cons_zero, List.set_cons_succ]
      have HB5 := Lib.hid (hbw.trans (hb5.mono hbw.size))
      clear hb5 hbw
      go_wp2_with fail
      go_ret
      exact ⟨ret_str (by rw [HR.out, text_when, HTa.out]; simp [sp, wWhen]), HB5.out⟩
    · clear HFC
      obtain ⟨g, off, Aa, ca, rfl, hca⟩ := HA.out.cells 0 (by simp)
      simp only [List.getElem_cons_zero, Nat.zero_mul, Nat.add_zero] at hca
      have hsa := size_mem (x := a) (s := [a]) (by simp)
      have hfa := formeds_mem (x := a) HFS.out (by simp)
      have hta := text_len a hfa
      have hpa := part_len a
      obtain ⟨ta, hta2⟩ : ∃ ta, ta = Tr.part a := ⟨_, rfl⟩
      have HCa : Hid (∀ W, At W B a Aa → Calls Try.prog 84 #[.agg #[.int .i64 a.kind, .int .i32 a.n, .string ⟨a.name.toArray⟩, .slice Aa a.sub.length ca]] W fun e w' => e = .returned (.string ⟨ta.toArray⟩) ∧ Below W.heap.size W w') := by rw [hta2]; exact refpart_of (IH.out a (by omega) (by omega) hfa (HF.out.mem (by simp)) Aa ca) (by omega)
      have hla : ta.length ≤ 100000 := by rw [hta2]; omega
      have HTa := Lib.hid hta2
      have HXa := Lib.hid hca
      clear hsa hfa hta hta2 hca hpa
      have hnl := name_len h1
      go_enter Try.func53, Try.ntmps53
      go_wp2_with fail
      obtain ⟨W0, hW0⟩ : ∃ W0, W0 = w.alloc (.cells #[.int .i64 9, .int .i32 0, .string ⟨m.toArray⟩, .slice (some ⟨g, off, none⟩) 1 cap] 43) := ⟨_, rfl⟩
      rw [← hW0]
      have hbw : Below w.heap.size w W0 := by rw [hW0]; exact HW0.out _
      have m3 : W0.cell? ⟨w.heap.size, 3, none⟩ = some (.slice (some ⟨g, off, none⟩) 1 cap) := by rw [hW0]; simp [go_sem]
      have m2 : W0.cell? ⟨w.heap.size, 2, none⟩ = some (.string ⟨m.toArray⟩) := by rw [hW0]; simp [go_sem]
      clear hW0
      obtain ⟨x0a, x1a, x2a, x3a, _⟩ := HXa.out W0 hbw
      refine wp_region_any (by kernel_rfl) ?_
      refine wpAny_by (ops' := rt9Ops) (by kernel_rfl) ?_
      refine rt9Region _ W0 ?hs w.heap.size g off cap 0 m a Aa ca ta m3 m2 hnl ⟨x0a, x1a, x2a, x3a⟩ (fun W hW => HCa.out W (HXa.out W (hbw.trans (hW.mono hbw.size))).2.2.2.2) hla rfl ?_
      case hs => simp
      intro w5 hb5
      simp only [rt9Slots, List.foldl_cons, List.foldl_nil]
      simp only [rt9Val]
      simp only [Act.put, List.setIfInBounds_toArray, List.set_cons_zero, List.set_cons_succ]
      have HB5 := Lib.hid (hbw.trans (hb5.mono hbw.size))
      clear hb5 hbw
      go_wp2_with fail
      go_ret
      exact ⟨ret_str (by rw [HR.out, text_unless, HTa.out]; simp [sp, wUnless]), HB5.out⟩
    · clear HFC
      obtain ⟨g, off, Aa, ca, rfl, hca⟩ := HA.out.cells 0 (by simp)
      obtain ⟨g1, off1, Ab, cb, hgg, hcb⟩ := HA.out.cells 1 (by simp)
      obtain ⟨rfl, rfl⟩ : g = g1 ∧ off = off1 := by injection hgg with hgg; injection hgg; exact ⟨by assumption, by assumption⟩
      clear hgg
      simp only [List.getElem_cons_zero, List.getElem_cons_succ, Nat.zero_mul, Nat.one_mul, Nat.add_zero] at hca hcb
      have hsa := size_mem (x := a) (s := [a, b]) (by simp)
      have hfa := formeds_mem (x := a) HFS.out (by simp)
      have hta := text_len a hfa
      have hpa := part_len a
      obtain ⟨ta, hta2⟩ : ∃ ta, ta = Tr.part a := ⟨_, rfl⟩
      have HCa : Hid (∀ W, At W B a Aa → Calls Try.prog 84 #[.agg #[.int .i64 a.kind, .int .i32 a.n, .string ⟨a.name.toArray⟩, .slice Aa a.sub.length ca]] W fun e w' => e = .returned (.string ⟨ta.toArray⟩) ∧ Below W.heap.size W w') := by rw [hta2]; exact refpart_of (IH.out a (by omega) (by omega) hfa (HF.out.mem (by simp)) Aa ca) (by omega)
      have hla : ta.length ≤ 100000 := by rw [hta2]; omega
      have HTa := Lib.hid hta2
      have HXa := Lib.hid hca
      clear hsa hfa hta hta2 hca hpa
      have hsb := size_mem (x := b) (s := [a, b]) (by simp)
      have hfb := formeds_mem (x := b) HFS.out (by simp)
      have htb := text_len b hfb
      have hpb := part_len b
      obtain ⟨tb, htb2⟩ : ∃ tb, tb = Tr.part b := ⟨_, rfl⟩
      have HCb : Hid (∀ W, At W B b Ab → Calls Try.prog 84 #[.agg #[.int .i64 b.kind, .int .i32 b.n, .string ⟨b.name.toArray⟩, .slice Ab b.sub.length cb]] W fun e w' => e = .returned (.string ⟨tb.toArray⟩) ∧ Below W.heap.size W w') := by rw [htb2]; exact refpart_of (IH.out b (by omega) (by omega) hfb (HF.out.mem (by simp)) Ab cb) (by omega)
      have hlb : tb.length ≤ 100000 := by rw [htb2]; omega
      have HTb := Lib.hid htb2
      have HXb := Lib.hid hcb
      clear hsb hfb htb htb2 hcb hpb
      have hnl := name_len h1
      go_enter Try.func53, Try.ntmps53
      go_wp2_with fail
      obtain ⟨W0, hW0⟩ : ∃ W0, W0 = w.alloc (.cells #[.int .i64 10, .int .i32 0, .string ⟨m.toArray⟩, .slice (some ⟨g, off, none⟩) 2 cap] 43) := ⟨_, rfl⟩
      rw [← hW0]
      have hbw : Below w.heap.size w W0 := by rw [hW0]; exact HW0.out _
      have m3 : W0.cell? ⟨w.heap.size, 3, none⟩ = some (.slice (some ⟨g, off, none⟩) 2 cap) := by rw [hW0]; simp [go_sem]
      have m2 : W0.cell? ⟨w.heap.size, 2, none⟩ = some (.string ⟨m.toArray⟩) := by rw [hW0]; simp [go_sem]
      clear hW0
      obtain ⟨x0a, x1a, x2a, x3a, _⟩ := HXa.out W0 hbw
      obtain ⟨x0b, x1b, x2b, x3b, _⟩ := HXb.out W0 hbw
      refine wp_region_any (by kernel_rfl) ?_
      refine wpAny_by (ops' := rt10Ops) (by kernel_rfl) ?_
      refine rt10Region _ W0 ?hs w.heap.size g off cap 0 m a b Aa Ab ca cb ta tb m3 m2 hnl ⟨x0a, x1a, x2a, x3a⟩ (fun W hW => HCa.out W (HXa.out W (hbw.trans (hW.mono hbw.size))).2.2.2.2) hla ⟨x0b, x1b, x2b, x3b⟩ (fun W hW => HCb.out W (HXb.out W (hbw.trans (hW.mono hbw.size))).2.2.2.2) hlb rfl ?_
      case hs => simp
      intro w5 hb5
      simp only [rt10Slots, List.foldl_cons, List.foldl_nil]
      simp only [rt10Val]
      simp only [Act.put, List.setIfInBounds_toArray, List.set_cons_zero, List.set_cons_succ]
      have HB5 := Lib.hid (hbw.trans (hb5.mono hbw.size))
      clear hb5 hbw
      go_wp2_with fail
      go_ret
      exact ⟨ret_str (by rw [HR.out, text_merge, HTa.out, HTb.out]; simp [sp, wMerge]), HB5.out⟩
end Go.Proofs.Ytilkilffkjhhbaa
namespace Go.Proofs.Ytilkilffkjhhbaa
set_option maxRecDepth 20000
set_option linter.unusedVariables false
open Go.RowKit Tr Mem

/-- an expression as text, or what is wrong -/
def showT (x : Ex) : Lx.Bs × Int := if right x = 0 then (text x, 0) else ([], right x)
set_option maxHeartbeats 4000000 in
theorem tshow_any (x : Ex) (B : Nat → Prop) (A : Option Addr) (cap : Nat) (w : World) (hA : At w B x A) (hfit : Fit x) :
    Calls Try.prog 22 #[exAgg x A cap] w fun e w' => e = .returned (.tuple #[.string ⟨(showT x).1.toArray⟩, .int .i64 (showT x).2]) ∧ Below w.heap.size w w' := by
  have HW0 : Hid (∀ V, Below w.heap.size w (w.alloc V)) := fun V => (Below.refl _ _).alloc (Nat.le_refl _) V
  have HA := Lib.hid hA
  have HRI := Lib.hid (fun W h => right_any x B A cap W h hfit)
  unfold showT
  by_cases h0 : right x = 0
  · rw [if_pos h0]
    have HS := Lib.hid (fun W h => show_any B (size x) x (Nat.le_refl _) (by have := (right_zero h0).1; omega) (right_zero h0).2.2 hfit A cap W h)
    rw [h0] at HRI
    unfold exAgg at *
    generalize text x = tx at *
    clear hA h0
    dsimp only
    go_enter Try.func22, Try.ntmps22
    go_wp2_with fail
    refine (HRI.out _ (HA.out.below (HW0.out _) (Nat.le_refl _))).mono ?_
    rintro e w1 ⟨rfl, hb1⟩
    have hb2 := (HW0.out (.cells #[.int .i64 x.kind, .int .i32 x.n, .string ⟨x.name.toArray⟩, .slice A x.sub.length cap] 43)).trans (hb1.mono (by simp))
    have HB1 := Lib.hid hb2
    have HA1 := Lib.hid (HA.out.below hb2 (Nat.le_refl _))
    obtain ⟨k0, k1, k2, k3, -⟩ := row4 (row4_of hb1)
    clear hb1 hb2
    go_wp2_with fail
    refine (HS.out _ HA1.out).mono ?_
    rintro e w2 ⟨rfl, hb2⟩
    have HB2 := Lib.hid (HB1.out.trans (hb2.mono HB1.out.size))
    clear hb2
    go_wp2_with fail
    go_ret2
    exact ⟨rfl, HB2.out⟩
  · rw [if_neg h0]
    have hne : (right x != 0) = true := by simpa using h0
    generalize right x = q at *
    unfold exAgg at *
    clear hA
    dsimp only
    go_enter Try.func22, Try.ntmps22
    go_wp2_with fail
    refine (HRI.out _ (HA.out.below (HW0.out _) (Nat.le_refl _))).mono ?_
    rintro e w1 ⟨rfl, hb1⟩
    have HB1 := Lib.hid ((HW0.out _).trans (hb1.mono (by simp)))
    clear hb1
    go_wp2_with fail
    go_ret2
    exact ⟨rfl, HB1.out⟩
set_option maxHeartbeats 4000000 in
theorem refshow_any (x : Ex) (B : Nat → Prop) (A : Option Addr) (cap : Nat) (w : World) (hA : At w B x A) (hfit : Fit x) :
    Calls Try.prog 23 #[exAgg x A cap] w fun e w' => e = .returned (.tuple #[.string ⟨(showT x).1.toArray⟩, .int .i64 (showT x).2]) ∧ Below w.heap.size w w' := by
  have HW0 : Hid (∀ V, Below w.heap.size w (w.alloc V)) := fun V => (Below.refl _ _).alloc (Nat.le_refl _) V
  have HA := Lib.hid hA
  have HRI := Lib.hid (fun W h => refright_any x B A cap W h hfit)
  unfold showT
  by_cases h0 : right x = 0
  · rw [if_pos h0]
    have HS := Lib.hid (fun W h => reftext_any B (size x) x (Nat.le_refl _) (by have := (right_zero h0).1; omega) (right_zero h0).2.2 hfit A cap W h)
    rw [h0] at HRI
    unfold exAgg at *
    generalize text x = tx at *
    clear hA h0
    dsimp only
    go_enter Try.func23, Try.ntmps23
    go_wp2_with fail
    refine (HRI.out _ (HA.out.below (HW0.out _) (Nat.le_refl _))).mono ?_
    rintro e w1 ⟨rfl, hb1⟩
    have hb2 := (HW0.out (.cells #[.int .i64 x.kind, .int .i32 x.n, .string ⟨x.name.toArray⟩, .slice A x.sub.length cap] 43)).trans (hb1.mono (by simp))
    have HB1 := Lib.hid hb2
    have HA1 := Lib.hid (HA.out.below hb2 (Nat.le_refl _))
    obtain ⟨k0, k1, k2, k3, -⟩ := row4 (row4_of hb1)
    clear hb1 hb2
    go_wp2_with fail
    refine (HS.out _ HA1.out).mono ?_
    rintro e w2 ⟨rfl, hb2⟩
    have HB2 := Lib.hid (HB1.out.trans (hb2.mono HB1.out.size))
    clear hb2
    go_wp2_with fail
    go_ret2
    exact ⟨rfl, HB2.out⟩
  · rw [if_neg h0]
    have hne : (right x != 0) = true := by simpa using h0
    generalize right x = q at *
    unfold exAgg at *
    clear hA
    dsimp only
    go_enter Try.func23, Try.ntmps23
    go_wp2_with fail
    refine (HRI.out _ (HA.out.below (HW0.out _) (Nat.le_refl _))).mono ?_
    rintro e w1 ⟨rfl, hb1⟩
    have HB1 := Lib.hid ((HW0.out _).trans (hb1.mono (by simp)))
    clear hb1
    go_wp2_with fail
    go_ret2
    exact ⟨rfl, HB1.out⟩
end Go.Proofs.Ytilkilffkjhhbaa
