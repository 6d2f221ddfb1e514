/-
  The walk of the law JudgeChecks: any code in any frame is told of as the document says.
-/
import Derived.Test.YtlfbpcjeohbfkaaJudgeChecksR
import Derived.Test.YtlfbpcjeohbfkaaJuS
namespace Go.Proofs.Ytlfbpcjeohbfkaa
set_option maxRecDepth 20000
open Go.RowKit Mem

theorem wp_by_world3 {P : Program} {c : Code} {Q : Exit → Act → World → Prop} {a : Act} {W W1 : World} (h : W1 = W) (hc : c.wp P Q a W1) : c.wp P Q a W := h ▸ hc
set_option maxRecDepth 100000 in
set_option maxHeartbeats 8000000 in
theorem judgeChecks_walk (w : World) (A : Option Addr) (c : Nat) (l : List Ia.Ins) (hA : InsArg w A c l) (f : Ju.Fr) (hf : In64 f.sl ∧ In64 f.ol ∧ In64 f.nw ∧ In64 f.is ∧ In64 f.os) :
    Calls Try.prog 3 #[.slice A l.length c, frAgg f] w fun e w' => e = .returned (.bool true) ∧ Below w.heap.size w w' := by
  obtain ⟨hA1, hA2, hA3⟩ := hA
  by_cases h1 : l.length ≤ 2000
  · have HA := Lib.hid hA1
    have na : ∀ k (h : k < l.length), -2147483648 ≤ (l[k]'h).n ∧ (l[k]'h).n ≤ 2147483647 := fun k h => (hA2 k h).2
    have HLN := Lib.hid (fun (W : World) (h : ISrc W A c l) => inlent l A c W h (by omega))
    have HC1 := Lib.hid (fun (W : World) (A1 : Option Addr) (c1 : Nat) (h : InsAt W A1 l) => jcheck f l A1 c1 W h (by omega) na)
    have HC2 := Lib.hid (fun (W : World) (h : InsAt W A l) => refcheck f l A c W h (by omega) na)
    clear hA1 hA2 hA3 na
    unfold frAgg at HC1 HC2
    have HGO : Hid (frAgg f = .agg #[.int .i64 f.sl, .int .i64 f.ol, .int .i64 f.nw, .int .i64 f.is, .int .i64 f.os]) := rfl
    rw [HGO.out]
    go_enter Try.func3, Try.ntmps3
    go_wp2_with fail
    obtain ⟨W0, hW0⟩ : ∃ W0, W0 = w.alloc (.cells #[.int .i64 f.sl, .int .i64 f.ol, .int .i64 f.nw, .int .i64 f.is, .int .i64 f.os] 24) := ⟨_, rfl⟩
    rw [← hW0]
    have HF0 : Hid (W0.heap[w.heap.size]? = some (.cells #[.int .i64 f.sl, .int .i64 f.ol, .int .i64 f.nw, .int .i64 f.is, .int .i64 f.os] 24 (0, 0))) := by unfold RowKit.Hid; rw [hW0]; exact heap_alloc_new _ _
    have HB0 : Hid (Below w.heap.size w W0) := by unfold RowKit.Hid; rw [hW0]; exact (Below.refl _ _).alloc (Nat.le_refl _) _
    clear hW0
    refine (HLN.out W0 (HA.out.below HB0.out (Nat.le_refl _))).mono ?_
    rintro e w1 ⟨v, rfl, hown, hb1⟩
    obtain ⟨A1, c1, rfl⟩ := own_slice hown
    have HO1 := Lib.hid (InsAt.of_own hown)
    have HF1 := Lib.hid ((hb1.block _ (Array.getElem?_eq_some_iff.1 HF0.out).1).trans HF0.out)
    have HB1 := Lib.hid (HB0.out.trans (hb1.mono HB0.out.size))
    clear hb1 hown HF0 HB0
    have cf0 : w1.cell? ⟨w.heap.size, 0, none⟩ = some (.int .i64 f.sl) := cell_of_row _ _ 0 _ _ (0, 0) HF1.out
    have cf1 : w1.cell? ⟨w.heap.size, 1, none⟩ = some (.int .i64 f.ol) := cell_of_row _ _ 1 _ _ (0, 0) HF1.out
    have cf2 : w1.cell? ⟨w.heap.size, 2, none⟩ = some (.int .i64 f.nw) := cell_of_row _ _ 2 _ _ (0, 0) HF1.out
    have cf3 : w1.cell? ⟨w.heap.size, 3, none⟩ = some (.int .i64 f.is) := cell_of_row _ _ 3 _ _ (0, 0) HF1.out
    have cf4 : w1.cell? ⟨w.heap.size, 4, none⟩ = some (.int .i64 f.os) := cell_of_row _ _ 4 _ _ (0, 0) HF1.out
    go_wp2_with fail
    refine (HC1.out w1 A1 c1 HO1.out).mono ?_
    rintro e w2 ⟨r1, hr1, rfl, hb2⟩
    have HR1 := Lib.hid hr1
    have HO2 := Lib.hid (HO1.out.below hb2 (Nat.le_refl _))
    have HF2 := Lib.hid ((hb2.block _ (Array.getElem?_eq_some_iff.1 HF1.out).1).trans HF1.out)
    have HB2 := Lib.hid (HB1.out.trans (hb2.mono HB1.out.size))
    have hz2 : w.heap.size < w2.heap.size := (Array.getElem?_eq_some_iff.1 HF2.out).1
    clear hb2 hr1 cf0 cf1 cf2 cf3 cf4 HF1 HO1
    have cf0 : w2.cell? ⟨w.heap.size, 0, none⟩ = some (.int .i64 f.sl) := cell_of_row _ _ 0 _ _ (0, 0) HF2.out
    have cf1 : w2.cell? ⟨w.heap.size, 1, none⟩ = some (.int .i64 f.ol) := cell_of_row _ _ 1 _ _ (0, 0) HF2.out
    have cf2 : w2.cell? ⟨w.heap.size, 2, none⟩ = some (.int .i64 f.nw) := cell_of_row _ _ 2 _ _ (0, 0) HF2.out
    have cf3 : w2.cell? ⟨w.heap.size, 3, none⟩ = some (.int .i64 f.is) := cell_of_row _ _ 3 _ _ (0, 0) HF2.out
    have cf4 : w2.cell? ⟨w.heap.size, 4, none⟩ = some (.int .i64 f.os) := cell_of_row _ _ 4 _ _ (0, 0) HF2.out
    go_wp2_with fail
    obtain ⟨W2, hW2⟩ : ∃ W2, W2 = w2.alloc (.cells #[.int .i64 r1.dp, .int .i64 r1.fu] 28) := ⟨_, rfl⟩
    rw [← hW2]
    have HX2 : Hid (W2.heap[w2.heap.size]? = some (.cells #[.int .i64 r1.dp, .int .i64 r1.fu] 28 (0, 0))) := by unfold RowKit.Hid; rw [hW2]; exact heap_alloc_new _ _
    have HFx : Hid (W2.heap[w.heap.size]? = some (.cells #[.int .i64 f.sl, .int .i64 f.ol, .int .i64 f.nw, .int .i64 f.is, .int .i64 f.os] 24 (0, 0))) := by unfold RowKit.Hid; rw [hW2]; exact (heap_alloc_old _ _ hz2).trans HF2.out
    have HOx : Hid (InsAt W2 A1 l) := by unfold RowKit.Hid; rw [hW2]; exact HO2.out.below ((Below.refl _ _).alloc (Nat.le_refl _) _) (Nat.le_refl _)
    have HBx : Hid (Below w.heap.size w W2) := by unfold RowKit.Hid; rw [hW2]; exact HB2.out.alloc HB2.out.size _
    clear hW2 cf0 cf1 cf2 cf3 cf4 HF2 HO2
    refine (HC2.out W2 (ISrc.at_ (HA.out.below HBx.out (Nat.le_refl _)))).mono ?_
    rintro e w3 ⟨r2, hr2, rfl, hb3⟩
    obtain rfl : r1 = r2 := HR1.out.trans hr2.symm
    have HX3 := Lib.hid ((hb3.block _ (Array.getElem?_eq_some_iff.1 HX2.out).1).trans HX2.out)
    have HF3 := Lib.hid ((hb3.block _ (Array.getElem?_eq_some_iff.1 HFx.out).1).trans HFx.out)
    have HO3 := Lib.hid (HOx.out.below hb3 (Nat.le_refl _))
    have HB3 := Lib.hid (HBx.out.trans (hb3.mono HBx.out.size))
    have hz3 : w.heap.size < w3.heap.size := (Array.getElem?_eq_some_iff.1 HF3.out).1
    have hx3 : w2.heap.size < w3.heap.size := (Array.getElem?_eq_some_iff.1 HX3.out).1
    clear hb3 hr2 HX2 HFx HOx
    go_upto_region 6 with fail
    obtain ⟨W3, hW3⟩ : ∃ W3, W3 = w3.alloc (.cells #[.int .i64 r1.dp, .int .i64 r1.fu] 32) := ⟨_, rfl⟩
    refine wp_by_world3 (W1 := W3) hW3 ?_
    have HY4 : Hid (W3.heap[w3.heap.size]? = some (.cells #[.int .i64 r1.dp, .int .i64 r1.fu] 32 (0, 0))) := by unfold RowKit.Hid; rw [hW3]; exact heap_alloc_new _ _
    have HX4 : Hid (W3.heap[w2.heap.size]? = some (.cells #[.int .i64 r1.dp, .int .i64 r1.fu] 28 (0, 0))) := by unfold RowKit.Hid; rw [hW3]; exact (heap_alloc_old _ _ hx3).trans HX3.out
    have HF4 : Hid (W3.heap[w.heap.size]? = some (.cells #[.int .i64 f.sl, .int .i64 f.ol, .int .i64 f.nw, .int .i64 f.is, .int .i64 f.os] 24 (0, 0))) := by unfold RowKit.Hid; rw [hW3]; exact (heap_alloc_old _ _ hz3).trans HF3.out
    have HO4 : Hid (InsAt W3 A1 l) := by unfold RowKit.Hid; rw [hW3]; exact HO3.out.below ((Below.refl _ _).alloc (Nat.le_refl _) _) (Nat.le_refl _)
    have HB4 : Hid (Below w.heap.size w W3) := by unfold RowKit.Hid; rw [hW3]; exact HB3.out.alloc HB3.out.size _
    clear hW3
    refine wp_region_any (by kernel_rfl) ?_
    refine wpAny_by (ops' := jchOps) (by kernel_rfl) ?_
    refine jchRegion _ W3 ?hs f l A A1 c c1 w.heap.size w2.heap.size w3.heap.size r1 h1 (ISrc.at_ (HA.out.below HB4.out (Nat.le_refl _))) HO4.out HF4.out HX4.out HY4.out rfl rfl rfl rfl rfl rfl rfl rfl rfl ?_
    case hs => simp [Act.put]
    intro w5 hb5
    simp only [jchSlots, List.foldl_cons, List.foldl_nil]
    simp only [jchVal]
    simp only [Act.put, List.setIfInBounds_toArray, List.set_cons_zero, List.set_cons_succ]
    have HB5 := Lib.hid (HB4.out.trans (hb5.mono HB4.out.size))
    clear hb5
    go_wp2_with fail
    go_ret
    exact ⟨rfl, HB5.out⟩
  · unfold frAgg
    go_enter Try.func3, Try.ntmps3
    go_wp2_with fail
    refine (known_any _).mono ?_
    rintro e w8 ⟨rfl, hb8⟩
    go_wp2_with fail
    go_ret
    exact ⟨rfl, ((Below.refl _ _).alloc (Nat.le_refl _) _).trans (hb8.mono (by simp))⟩
end Go.Proofs.Ytlfbpcjeohbfkaa
