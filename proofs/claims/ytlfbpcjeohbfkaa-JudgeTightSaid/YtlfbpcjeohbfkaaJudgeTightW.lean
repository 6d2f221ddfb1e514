/-
  The walk of the law JudgeTight: there is a way that meets just Fuel instructions.
-/
import Derived.Test.YtlfbpcjeohbfkaaJudgeTightR
namespace Go.Proofs.Ytlfbpcjeohbfkaa
open Go.RowKit Mem

theorem maxif3 (a b : Int) : (if a < b then b else a) = max a b := by rw [Int.max_def]; split <;> split <;> omega
set_option maxRecDepth 100000 in
set_option maxHeartbeats 8000000 in
theorem judgeTight_walk (w : World) (A : Option Addr) (c : Nat) (l : List Ia.Ins) (hA : InsArg w A c l) (f : Ju.Fr) (_hf : In64 f.sl ∧ In64 f.ol ∧ In64 f.nw ∧ In64 f.is ∧ In64 f.os) :
    Calls Try.prog 7 #[.slice A l.length c, frAgg f] w fun e w' => e = .returned (.bool true) ∧ Below w.heap.size w w' := by
  obtain ⟨hA1, hA2, hA3⟩ := hA
  by_cases h1 : l.length ≤ 200
  · have HA := Lib.hid (ISrc.at_ hA1)
    have na : ∀ k (h : k < l.length), -2147483648 ≤ (l[k]'h).n ∧ (l[k]'h).n ≤ 2147483647 := fun k h => (hA2 k h).2
    have HC1 := Lib.hid (fun (W : World) (h : InsAt W A l) => jcheck f l A c W h (by omega) na)
    have HFL := Lib.hid (fun (h : (Ju.check f l).er = 0) => check_flow h)
    have HNA := Lib.hid na
    clear hA1 hA2 hA3 na
    unfold frAgg at HC1
    have HGO : Hid (frAgg f = .agg #[.int .i64 f.sl, .int .i64 f.ol, .int .i64 f.nw, .int .i64 f.is, .int .i64 f.os]) := rfl
    rw [HGO.out]
    go_enter Try.func7, Try.ntmps7
    go_wp2_with fail
    obtain ⟨W0, hW0⟩ : ∃ W0, W0 = w.alloc (.cells #[.int .i64 f.sl, .int .i64 f.ol, .int .i64 f.nw, .int .i64 f.is, .int .i64 f.os] 24) := ⟨_, rfl⟩
    rw [← hW0]
    have HF0 : Hid (W0.heap[w.heap.size]? = some (.cells #[.int .i64 f.sl, .int .i64 f.ol, .int .i64 f.nw, .int .i64 f.is, .int .i64 f.os] 24 (0, 0))) := by unfold RowKit.Hid; rw [hW0]; exact heap_alloc_new _ _
    have HB0 : Hid (Below w.heap.size w W0) := by unfold RowKit.Hid; rw [hW0]; exact (Below.refl _ _).alloc (Nat.le_refl _) _
    clear hW0
    refine (HC1.out W0 (HA.out.below HB0.out (Nat.le_refl _))).mono ?_
    rintro e w1 ⟨r1, hr1, rfl, hb1⟩
    have HR1 := Lib.hid hr1
    have HB1 := Lib.hid (HB0.out.trans (hb1.mono HB0.out.size))
    clear hb1 hr1 HF0 HB0
    by_cases e1 : r1.er = 0
    · obtain ⟨S, hF, hSn, hSt⟩ := HFL.out (by rw [← HR1.out]; exact e1)
      rw [← HR1.out] at hF hSn
      have HF := Lib.hid hF
      have HSN := Lib.hid hSn
      clear hF hSn hSt HFL HC1
      have hmk := make_ints l.length (by omega)
      go_wp2_with fail
      obtain ⟨w2, hw2⟩ : ∃ w2, w2 = (w1.alloc (.cells #[.int .i64 r1.dp, .int .i64 r1.fu] 28)).alloc (.cells (mCells l.length (fun _ => 0)) 3) := ⟨_, rfl⟩
      rw [← hw2]
      have HP2 : Hid (w2.heap[w1.heap.size]? = some (.cells #[.int .i64 r1.dp, .int .i64 r1.fu] 28 (0, 0))) := by unfold RowKit.Hid; rw [hw2]; exact heap_alloc2_old _ _ _
      have HM2 : Hid (MAt w2 (w1.heap.size + 1) l.length (fun _ => 0)) := by unfold RowKit.Hid; rw [hw2]; exact heap_alloc2_new _ _ _
      have HB2 : Hid (Below w1.heap.size w1 w2) := by unfold RowKit.Hid; rw [hw2]; exact ((Below.refl _ _).alloc (Nat.le_refl _) _).alloc (by simp) _
      clear hw2 hmk
      go_loopw [10] (fun i wr => ∃ (k : Nat) (z : Int) (M : Nat → Int), k ≤ l.length ∧ z = (k : Int) - 1 ∧ i = .int .i64 z ∧ Hid (MostOk l k M) ∧ Hid (MAt wr (w1.heap.size + 1) l.length M) ∧ Hid (Below (w1.heap.size + 1) w2 wr)) (fun i _ => (intOf i + 1).toNat)
      case atStart => exact ⟨l.length, (l.length : Int) - 1, fun _ => 0, Nat.le_refl _, rfl, rfl, most_first l, HM2, Below.refl _ _⟩
      case round =>
        obtain ⟨k, z, M, hk, hz, rfl, hMO, hMA, hB⟩ := hrel
        have hlm : w1.heap.size + 1 < wr.heap.size := (Array.getElem?_eq_some_iff.1 hMA.out).1
        have hlm2 : w1.heap.size < wr.heap.size := by omega
        rcases k with _ | j
        · have hz0 : ¬ (0 ≤ z) := by omega
          clear hz
          have HM0 := Lib.hid (most_fuel HF.out HSN.out hMO.out)
          have HPr := Lib.hid ((hB.out.block _ (by omega)).trans HP2.out)
          have HBE := Lib.hid (HB1.out.trans ((HB2.out.trans (hB.out.mono (by omega))).mono HB1.out.size))
          have HCM : Hid (wr.cell? ⟨w1.heap.size + 1, 0, none⟩ = some (.int .i64 r1.fu)) := by unfold RowKit.Hid; rw [hMA.out.cell 0 (Nat.zero_le _), HM0.out]
          go_upto_region 23 with fail
          refine wp_region_any (by kernel_rfl) ?_
          refine wpAny_by (ops' := jtgOps) (by kernel_rfl) ?_
          refine jtgRegion _ wr ?hs (w1.heap.size + 1) l.length w1.heap.size r1.fu r1.dp HCM.out HPr.out rfl rfl ?_
          case hs => simp
          intro w5 hb5
          simp only [jtgSlots, List.foldl_cons, List.foldl_nil]
          simp only [jtgVal]
          simp only [Act.put, List.setIfInBounds_toArray, List.set_cons_zero, List.set_cons_succ]
          have HB5 := Lib.hid (HBE.out.trans (hb5.mono HBE.out.size))
          clear hb5
          go_wp2_with fail
          go_ret
          exact ⟨rfl, HB5.out⟩
        · obtain rfl : z = (j : Int) := by omega
          clear hz
          have hlt : j < l.length := by omega
          obtain ⟨b, off, rfl, c0, c1⟩ := (HA.out.below HB1.out (Nat.le_refl _)).below (HB2.out.trans (hB.out.mono (by omega))) (Nat.le_refl _) j hlt
          obtain ⟨d0, f0, q1, q2, q3, q4, q5, q6, q7, q8⟩ := HF.out.edge j hlt hlt
          have hrn := right_n (i := l[j]'hlt) q2
          have HMS := Lib.hid (most_step hMO.out hlt q6)
          have hrg := hMO.out.rng (j + 1) (by omega)
          have hrT := hMO.out.rng (Ju.to j (l[j]'hlt))
          obtain ⟨T, hT⟩ : ∃ T, T = Ju.to j (l[j]'hlt) := ⟨_, rfl⟩
          have hTe : Ju.jumps (l[j]'hlt).op = true → (j : Int) + 1 + (l[j]'hlt).n = (T : Int) := fun h => by have := (hrn h).1; rw [hT]; unfold Ju.to; omega
          obtain ⟨n1, n2⟩ := HNA.out j hlt
          have HTT := Lib.hid hT
          rw [← hT] at q6 hrT
          clear q1 q2 q3 q4 q5 q7 q8 hT
          generalize l[j]'hlt = ins at *
          have r0 : (0 : Int) ≤ j := by omega
          have r1' : (j : Int) < (l.length : Int) := by omega
          have m1 := hMA.out.cell (j + 1) (by omega)
          have hfz := hMA.out.frozen j
          have m0 := hMA.out.cell j (by omega)
          have hll : (l.length : Int) ≤ 200 := by omega
          by_cases h10 : ins.op = 10
          · have hj : Ju.jumps ins.op = true := by rw [h10]; rfl
            obtain ⟨s1, s2⟩ := hrn hj
            have hte := hTe hj
            have htl := q6 hj
            have mT := hMA.out.cell T htl
            obtain ⟨g1, g2⟩ := hrT htl
            clear hrn hTe q6 hrT
            obtain ⟨bst, hbst⟩ : ∃ b, b = bestOf ins j M := ⟨_, rfl⟩
            have hmx : (if 0 < M T then M T else 0) = bst := by rw [hbst]; unfold bestOf; rw [if_pos h10, ← HTT.out, maxif3]
            have hbr : 0 ≤ bst ∧ bst ≤ 200 := by rw [← hmx]; split <;> omega
            have HST : Hid (MostOk l j (updM M j (bst + 1))) := by unfold RowKit.Hid; rw [hbst]; exact HMS.out
            have HS := Lib.hid (mc_set l.length M j (by omega) (bst + 1))
            clear hbst
            have HMA2 : Hid (MAt ((wr.setCell ⟨w1.heap.size + 1, j, none⟩ (.int .i64 (bst + 1))).alloc (.cells #[.int .i64 10, .int .i32 ins.n] 40)) (w1.heap.size + 1) l.length (updM M j (bst + 1))) := by
              refine (heap_alloc_old _ _ (by simpa using hlm)).trans ?_
              have q := heap_setCell_same _ (w1.heap.size + 1) j _ _ (.int .i64 (bst + 1)) hMA.out
              rw [HS.out] at q
              exact q
            have HBB : Hid (Below (w1.heap.size + 1) w2 ((wr.setCell ⟨w1.heap.size + 1, j, none⟩ (.int .i64 (bst + 1))).alloc (.cells #[.int .i64 10, .int .i32 ins.n] 40))) := (hB.out.setCell (Nat.le_refl _) _).alloc (by simp; omega) _
            go_wp2_with fail
            go_roundw
            case rel => exact ⟨j, (j : Int) - 1, updM M j (bst + 1), by omega, rfl, by go_num, HST, HMA2, HBB⟩
            case measure => simp [intOf]
          · by_cases h11 : ins.op = 11
            · have hj : Ju.jumps ins.op = true := by rw [h11]; rfl
              obtain ⟨s1, s2⟩ := hrn hj
              have hte := hTe hj
              have htl := q6 hj
              have mT := hMA.out.cell T htl
              obtain ⟨g1, g2⟩ := hrT htl
              clear hrn hTe q6 hrT
              obtain ⟨bst, hbst⟩ : ∃ b, b = bestOf ins j M := ⟨_, rfl⟩
              have hmx : (if M (j + 1) < M T then M T else M (j + 1)) = bst := by rw [hbst]; unfold bestOf; rw [if_neg h10, if_pos h11, ← HTT.out, maxif3]
              have hbr : 0 ≤ bst ∧ bst ≤ 200 := by rw [← hmx]; split <;> omega
              have HST : Hid (MostOk l j (updM M j (bst + 1))) := by unfold RowKit.Hid; rw [hbst]; exact HMS.out
              have HS := Lib.hid (mc_set l.length M j (by omega) (bst + 1))
              clear hbst
              have HMA2 : Hid (MAt ((wr.setCell ⟨w1.heap.size + 1, j, none⟩ (.int .i64 (bst + 1))).alloc (.cells #[.int .i64 11, .int .i32 ins.n] 40)) (w1.heap.size + 1) l.length (updM M j (bst + 1))) := by
                refine (heap_alloc_old _ _ (by simpa using hlm)).trans ?_
                have q := heap_setCell_same _ (w1.heap.size + 1) j _ _ (.int .i64 (bst + 1)) hMA.out
                rw [HS.out] at q
                exact q
              have HBB : Hid (Below (w1.heap.size + 1) w2 ((wr.setCell ⟨w1.heap.size + 1, j, none⟩ (.int .i64 (bst + 1))).alloc (.cells #[.int .i64 11, .int .i32 ins.n] 40))) := (hB.out.setCell (Nat.le_refl _) _).alloc (by simp; omega) _
              go_wp2_with fail
              go_roundw
              case rel => exact ⟨j, (j : Int) - 1, updM M j (bst + 1), by omega, rfl, by go_num, HST, HMA2, HBB⟩
              case measure => simp [intOf]
            · clear hrn hTe q6 hrT
              have h10b : (ins.op == 10) = false := by simpa using h10
              have h11b : (ins.op == 11) = false := by simpa using h11
              obtain ⟨bst, hbst⟩ : ∃ b, b = bestOf ins j M := ⟨_, rfl⟩
              have hmx : M (j + 1) = bst := by rw [hbst]; unfold bestOf; rw [if_neg h10, if_neg h11]
              have hbr : 0 ≤ bst ∧ bst ≤ 200 := by omega
              rw [hmx] at m1
              have HST : Hid (MostOk l j (updM M j (bst + 1))) := by unfold RowKit.Hid; rw [hbst]; exact HMS.out
              have HS := Lib.hid (mc_set l.length M j (by omega) (bst + 1))
              clear hbst
              by_cases hbig : 65536 < ins.n
              · skip
                have HMA2 : Hid (MAt ((wr.setCell ⟨w1.heap.size + 1, j, none⟩ (.int .i64 (bst + 1))).alloc (.cells #[.int .i64 ins.op, .int .i32 0] 40)) (w1.heap.size + 1) l.length (updM M j (bst + 1))) := by
                  refine (heap_alloc_old _ _ (by simpa using hlm)).trans ?_
                  have q := heap_setCell_same _ (w1.heap.size + 1) j _ _ (.int .i64 (bst + 1)) hMA.out
                  rw [HS.out] at q
                  exact q
                have HBB : Hid (Below (w1.heap.size + 1) w2 ((wr.setCell ⟨w1.heap.size + 1, j, none⟩ (.int .i64 (bst + 1))).alloc (.cells #[.int .i64 ins.op, .int .i32 0] 40))) := (hB.out.setCell (Nat.le_refl _) _).alloc (by simp; omega) _
                go_wp2_with fail
                go_roundw
                case rel => exact ⟨j, (j : Int) - 1, updM M j (bst + 1), by omega, rfl, by go_num, HST, HMA2, HBB⟩
                case measure => simp [intOf]
              · skip
                have HMA2 : Hid (MAt ((wr.setCell ⟨w1.heap.size + 1, j, none⟩ (.int .i64 (bst + 1))).alloc (.cells #[.int .i64 ins.op, .int .i32 ins.n] 40)) (w1.heap.size + 1) l.length (updM M j (bst + 1))) := by
                  refine (heap_alloc_old _ _ (by simpa using hlm)).trans ?_
                  have q := heap_setCell_same _ (w1.heap.size + 1) j _ _ (.int .i64 (bst + 1)) hMA.out
                  rw [HS.out] at q
                  exact q
                have HBB : Hid (Below (w1.heap.size + 1) w2 ((wr.setCell ⟨w1.heap.size + 1, j, none⟩ (.int .i64 (bst + 1))).alloc (.cells #[.int .i64 ins.op, .int .i32 ins.n] 40))) := (hB.out.setCell (Nat.le_refl _) _).alloc (by simp; omega) _
                go_wp2_with fail
                go_roundw
                case rel => exact ⟨j, (j : Int) - 1, updM M j (bst + 1), by omega, rfl, by go_num, HST, HMA2, HBB⟩
                case measure => simp [intOf]
    · have e1b : (r1.er != 0) = true := by simpa using e1
      go_wp2_with fail
      refine (known_any _).mono ?_
      rintro e w8 ⟨rfl, hb8⟩
      have HB8 := Lib.hid ((HB1.out.alloc HB1.out.size _).trans (hb8.mono (by have := HB1.out.size; simp; omega)))
      clear hb8
      go_wp2_with fail
      go_ret
      exact ⟨rfl, HB8.out⟩
  · unfold frAgg
    go_enter Try.func7, Try.ntmps7
    go_wp2_with fail
    refine (known_any _).mono ?_
    rintro e w8 ⟨rfl, hb8⟩
    go_wp2_with fail
    go_ret
    exact ⟨rfl, ((Below.refl _ _).alloc (Nat.le_refl _) _).trans (hb8.mono (by simp))⟩
end Go.Proofs.Ytlfbpcjeohbfkaa
