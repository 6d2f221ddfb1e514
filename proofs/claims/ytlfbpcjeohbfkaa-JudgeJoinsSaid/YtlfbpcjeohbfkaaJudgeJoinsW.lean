/-
  The walk of the law JudgeJoins: two codes that are accepted are accepted one behind the other.
-/
import Derived.Test.YtlfbpcjeohbfkaaJudgeJoinsR
namespace Go.Proofs.Ytlfbpcjeohbfkaa
open Go.RowKit Mem

theorem wp_by_world {P : Program} {c : Code} {Q : Exit → Act → World → Prop} {a : Act} {W W1 : World} (h : W1 = W) (hc : c.wp P Q a W1) : c.wp P Q a W := h ▸ hc
theorem maxif2 (a b : Int) : (if a < b then b else a) = max a b := by rw [Int.max_def]; split <;> split <;> omega
set_option maxRecDepth 100000 in
set_option maxHeartbeats 8000000 in
theorem judgeJoins_walk (w : World) (A : Option Addr) (c : Nat) (la : List Ia.Ins) (hA : InsArg w A c la) (A' : Option Addr) (c' : Nat) (lb : List Ia.Ins) (hA' : InsArg w A' c' lb) (f : Ju.Fr) (_hf : In64 f.sl ∧ In64 f.ol ∧ In64 f.nw ∧ In64 f.is ∧ In64 f.os) :
    Calls Try.prog 5 #[.slice A la.length c, .slice A' lb.length c', frAgg f] w fun e w' => e = .returned (.bool true) ∧ Below w.heap.size w w' := by
  obtain ⟨hA1, hA2, hA3⟩ := hA
  obtain ⟨hM1, hM2, hM3⟩ := hA'
  by_cases h1 : la.length ≤ 300
  · by_cases h2 : lb.length ≤ 300
    · have HA := Lib.hid hA1
      have HM := Lib.hid hM1
      have na : ∀ k (h : k < la.length), -2147483648 ≤ (la[k]'h).n ∧ (la[k]'h).n ≤ 2147483647 := fun k h => (hA2 k h).2
      have nb : ∀ k (h : k < lb.length), -2147483648 ≤ (lb[k]'h).n ∧ (lb[k]'h).n ≤ 2147483647 := fun k h => (hM2 k h).2
      have nab : ∀ k (h : k < (la ++ lb).length), -2147483648 ≤ ((la ++ lb)[k]'h).n ∧ ((la ++ lb)[k]'h).n ≤ 2147483647 := fun k h => by
        rcases List.mem_append.1 (List.getElem_mem h) with hm | hm
        · obtain ⟨j, hj, e⟩ := List.getElem_of_mem hm; rw [← e]; exact na j hj
        · obtain ⟨j, hj, e⟩ := List.getElem_of_mem hm; rw [← e]; exact nb j hj
      have HC1 := Lib.hid (fun (W : World) (h : ISrc W A c la) => jcheck f la A c W (ISrc.at_ h) (by omega) na)
      have HC2 := Lib.hid (fun (W : World) (h : ISrc W A' c' lb) => jcheck f lb A' c' W (ISrc.at_ h) (by omega) nb)
      have HC3 := Lib.hid (fun (W : World) (A1 : Option Addr) (c1 : Nat) (h : InsAt W A1 (la ++ lb)) => by
        have := jcheck f (la ++ lb) A1 c1 W h (by rw [List.length_append]; omega) nab
        rw [List.length_append] at this
        exact this)
      have HJ := Lib.hid (fun (ha : (Ju.check f la).er = 0) (hb : (Ju.check f lb).er = 0) => check_join ha hb h1 h2)
      have HBa := Lib.hid (fun (ha : (Ju.check f la).er = 0) => check_bound ha)
      have HBb := Lib.hid (fun (hb : (Ju.check f lb).er = 0) => check_bound hb)
      clear hA1 hA2 hA3 hM1 hM2 hM3 na nb nab
      unfold frAgg at HC1 HC2
      have HGO : Hid (frAgg f = .agg #[.int .i64 f.sl, .int .i64 f.ol, .int .i64 f.nw, .int .i64 f.is, .int .i64 f.os]) := rfl
      rw [HGO.out]
      go_enter Try.func5, Try.ntmps5
      go_wp2_with fail
      obtain ⟨W0, hW0⟩ : ∃ W0, W0 = w.alloc (.cells #[.int .i64 f.sl, .int .i64 f.ol, .int .i64 f.nw, .int .i64 f.is, .int .i64 f.os] 24) := ⟨_, rfl⟩
      rw [← hW0]
      have HF0 : Hid (W0.heap[w.heap.size]? = some (.cells #[.int .i64 f.sl, .int .i64 f.ol, .int .i64 f.nw, .int .i64 f.is, .int .i64 f.os] 24 (0, 0))) := by unfold RowKit.Hid; rw [hW0]; exact heap_alloc_new _ _
      have HB0 : Hid (Below w.heap.size w W0) := by unfold RowKit.Hid; rw [hW0]; exact (Below.refl _ _).alloc (Nat.le_refl _) _
      clear hW0
      refine (HC1.out W0 (HA.out.below HB0.out (Nat.le_refl _))).mono ?_
      rintro e w1 ⟨r1, hr1, rfl, hb1⟩
      have HR1 := Lib.hid hr1
      have HF1 := Lib.hid ((hb1.block _ (Array.getElem?_eq_some_iff.1 HF0.out).1).trans HF0.out)
      have HB1 := Lib.hid (HB0.out.trans (hb1.mono HB0.out.size))
      have hz1 : w.heap.size < w1.heap.size := (Array.getElem?_eq_some_iff.1 HF1.out).1
      have cf0 : w1.cell? ⟨w.heap.size, 0, none⟩ = some (.int .i64 f.sl) := cell_of_row _ _ 0 _ _ (0, 0) HF1.out
      have cf1 : w1.cell? ⟨w.heap.size, 1, none⟩ = some (.int .i64 f.ol) := cell_of_row _ _ 1 _ _ (0, 0) HF1.out
      have cf2 : w1.cell? ⟨w.heap.size, 2, none⟩ = some (.int .i64 f.nw) := cell_of_row _ _ 2 _ _ (0, 0) HF1.out
      have cf3 : w1.cell? ⟨w.heap.size, 3, none⟩ = some (.int .i64 f.is) := cell_of_row _ _ 3 _ _ (0, 0) HF1.out
      have cf4 : w1.cell? ⟨w.heap.size, 4, none⟩ = some (.int .i64 f.os) := cell_of_row _ _ 4 _ _ (0, 0) HF1.out
      clear hb1 hr1 HF0 HB0
      go_wp2_with fail
      obtain ⟨W1, hW1⟩ : ∃ W1, W1 = w1.alloc (.cells #[.int .i64 r1.dp, .int .i64 r1.fu] 28) := ⟨_, rfl⟩
      rw [← hW1]
      have HP1 : Hid (W1.heap[w1.heap.size]? = some (.cells #[.int .i64 r1.dp, .int .i64 r1.fu] 28 (0, 0))) := by unfold RowKit.Hid; rw [hW1]; exact heap_alloc_new _ _
      have HFx : Hid (W1.heap[w.heap.size]? = some (.cells #[.int .i64 f.sl, .int .i64 f.ol, .int .i64 f.nw, .int .i64 f.is, .int .i64 f.os] 24 (0, 0))) := by unfold RowKit.Hid; rw [hW1]; exact (heap_alloc_old _ _ hz1).trans HF1.out
      have HBx : Hid (Below w.heap.size w W1) := by unfold RowKit.Hid; rw [hW1]; exact HB1.out.alloc HB1.out.size _
      clear hW1
      refine (HC2.out W1 (HM.out.below HBx.out (Nat.le_refl _))).mono ?_
      rintro e w2 ⟨r2, hr2, rfl, hb2⟩
      have HR2 := Lib.hid hr2
      have HP2 := Lib.hid ((hb2.block _ (Array.getElem?_eq_some_iff.1 HP1.out).1).trans HP1.out)
      have HF2 := Lib.hid ((hb2.block _ (Array.getElem?_eq_some_iff.1 HFx.out).1).trans HFx.out)
      have HB2 := Lib.hid (HBx.out.trans (hb2.mono HBx.out.size))
      have hz2 : w1.heap.size < w2.heap.size := (Array.getElem?_eq_some_iff.1 HP2.out).1
      have hz2b : w.heap.size < w2.heap.size := by omega
      clear hb2 hr2 HP1 HFx HBx HF1
      by_cases e1 : r1.er = 0
      · by_cases e2 : r2.er = 0
        · have HJ3 := HJ.out (by rw [← HR1.out]; exact e1) (by rw [← HR2.out]; exact e2)
          have B1 := HBa.out (by rw [← HR1.out]; exact e1)
          have B2 := HBb.out (by rw [← HR2.out]; exact e2)
          rw [← HR1.out] at B1 HJ3
          rw [← HR2.out] at B2 HJ3
          obtain ⟨b1, b2, b3, b4⟩ := B1
          obtain ⟨b5, b6, b7, b8⟩ := B2
          obtain ⟨m, hm⟩ : ∃ m, (if r1.dp < r2.dp then r2.dp else r1.dp) = m := ⟨_, rfl⟩
          rw [← maxif2, hm] at HJ3
          have HJ4 := Lib.hid HJ3
          clear HJ3
          go_upto_region 7 with fail
          obtain ⟨W2, hW2⟩ : ∃ W2, W2 = w2.alloc (.cells #[.int .i64 r2.dp, .int .i64 r2.fu] 28) := ⟨_, rfl⟩
          refine wp_by_world (W1 := W2) hW2 ?_
          have HQ2 : Hid (W2.heap[w2.heap.size]? = some (.cells #[.int .i64 r2.dp, .int .i64 r2.fu] 28 (0, 0))) := by unfold RowKit.Hid; rw [hW2]; exact heap_alloc_new _ _
          have HPx : Hid (W2.heap[w1.heap.size]? = some (.cells #[.int .i64 r1.dp, .int .i64 r1.fu] 28 (0, 0))) := by unfold RowKit.Hid; rw [hW2]; exact (heap_alloc_old _ _ hz2).trans HP2.out
          have HFx : Hid (W2.heap[w.heap.size]? = some (.cells #[.int .i64 f.sl, .int .i64 f.ol, .int .i64 f.nw, .int .i64 f.is, .int .i64 f.os] 24 (0, 0))) := by unfold RowKit.Hid; rw [hW2]; exact (heap_alloc_old _ _ hz2b).trans HF2.out
          have HBx : Hid (Below w.heap.size w W2) := by unfold RowKit.Hid; rw [hW2]; exact HB2.out.alloc HB2.out.size _
          clear hW2
          refine wp_region_any (by kernel_rfl) ?_
          refine wpAny_by (ops' := jjnOps) (by kernel_rfl) ?_
          refine jjnRegion _ W2 ?hs f la lb A A' c c' w.heap.size (la.length + lb.length) ⟨m, r1.fu + r2.fu, 0, 0⟩ rfl ⟨h1, h2⟩ (HA.out.below HBx.out (Nat.le_refl _)) (HM.out.below HBx.out (Nat.le_refl _)) HFx.out (fun W A1 c1 h => (HC3.out W A1 c1 h).mono ?hck) rfl rfl rfl ?_
          case hs => simp [Act.put]
          case hck =>
            rintro e w' ⟨r, hr, he, hb⟩
            rw [HJ4.out] at hr
            subst hr
            exact ⟨he, hb⟩
          rintro vs w4 hb4 ⟨_, _, _, _, _, _, _, hrow, _⟩
          have hrow := hrow rfl
          rw [if_pos rfl] at hrow
          obtain ⟨gz, ez, hgz, hrz⟩ := hrow
          simp only [jjnSlots, List.foldl_cons, List.foldl_nil]
          simp only [jjnVal]
          simp only [Act.put, List.setIfInBounds_toArray, List.set_cons_zero, List.set_cons_succ]
          rw [ez]
          generalize vs 48 = v48
          generalize vs 50 = v50
          generalize vs 52 = v52
          have HP4 := Lib.hid ((hb4.block _ (Array.getElem?_eq_some_iff.1 HPx.out).1).trans HPx.out)
          have HQ4 := Lib.hid ((hb4.block _ (Array.getElem?_eq_some_iff.1 HQ2.out).1).trans HQ2.out)
          have HB4 := Lib.hid (HBx.out.trans (hb4.mono HBx.out.size))
          have cz0 : w4.cell? ⟨gz, 0, none⟩ = some (.int .i64 m) := cell_of_row _ _ 0 _ _ (0, 0) hrz
          have cz1 : w4.cell? ⟨gz, 1, none⟩ = some (.int .i64 (r1.fu + r2.fu)) := cell_of_row _ _ 1 _ _ (0, 0) hrz
          have cp0 : w4.cell? ⟨w1.heap.size, 0, none⟩ = some (.int .i64 r1.dp) := cell_of_row _ _ 0 _ _ (0, 0) HP4.out
          have cp1 : w4.cell? ⟨w1.heap.size, 1, none⟩ = some (.int .i64 r1.fu) := cell_of_row _ _ 1 _ _ (0, 0) HP4.out
          have cq0 : w4.cell? ⟨w2.heap.size, 0, none⟩ = some (.int .i64 r2.dp) := cell_of_row _ _ 0 _ _ (0, 0) HQ4.out
          have cq1 : w4.cell? ⟨w2.heap.size, 1, none⟩ = some (.int .i64 r2.fu) := cell_of_row _ _ 1 _ _ (0, 0) HQ4.out
          clear hb4 HPx HQ2 hrz ez hgz
          go_wp2_with fail
          refine (known_any _).mono ?_
          rintro e w8 ⟨rfl, hb8⟩
          have HB8 := Lib.hid (HB4.out.trans (hb8.mono HB4.out.size))
          clear hb8
          go_wp2_with fail
          go_ret
          exact ⟨rfl, HB8.out⟩
        · have e2b : (r2.er != 0) = true := by simpa using e2
          go_wp2_with fail
          refine (known_any _).mono ?_
          rintro e w8 ⟨rfl, hb8⟩
          have HB8 := Lib.hid ((HB2.out.alloc HB2.out.size _).trans (hb8.mono (by have := HB2.out.size; simp; omega)))
          clear hb8
          go_wp2_with fail
          go_ret
          exact ⟨rfl, HB8.out⟩
      · have e1b : (r1.er != 0) = true := by simpa using e1
        go_wp2_with fail
        refine (known_any _).mono ?_
        rintro e w8 ⟨rfl, hb8⟩
        have HB8 := Lib.hid ((HB2.out.alloc HB2.out.size _).trans (hb8.mono (by have := HB2.out.size; simp; omega)))
        clear hb8
        go_wp2_with fail
        go_ret
        exact ⟨rfl, HB8.out⟩
    · unfold frAgg
      go_enter Try.func5, Try.ntmps5
      go_wp2_with fail
      refine (known_any _).mono ?_
      rintro e w8 ⟨rfl, hb8⟩
      go_wp2_with fail
      go_ret
      exact ⟨rfl, ((Below.refl _ _).alloc (Nat.le_refl _) _).trans (hb8.mono (by simp))⟩
  · unfold frAgg
    go_enter Try.func5, Try.ntmps5
    go_wp2_with fail
    refine (known_any _).mono ?_
    rintro e w8 ⟨rfl, hb8⟩
    go_wp2_with fail
    go_ret
    exact ⟨rfl, ((Below.refl _ _).alloc (Nat.le_refl _) _).trans (hb8.mono (by simp))⟩
end Go.Proofs.Ytlfbpcjeohbfkaa
