/-
  A key as a block, by the reference of mac.
-/
import Derived.Test.YtofjfpnkdcpngaaMacE
namespace Go.Proofs.Ytofjfpnkdcpngaa
open Go.RowKit Mem

theorem mixC_last (m : List UInt8) (_ : m.length ≤ 64) : mixC m (bcells z64) m.length = (bcells (m ++ List.replicate (64 - m.length) 0)).toArray := by
  unfold mixC
  rw [List.take_length, bcells_append]
  congr 2
  unfold bcells z64
  rw [List.map_replicate, List.map_replicate, List.drop_replicate]
set_option maxRecDepth 100000 in
set_option maxHeartbeats 4000000 in
theorem refblock (k : List UInt8) (A : Option Addr) (c : Nat) (w : World) (hA : BSrc w A c k) (hm : k.length ≤ 140737488351232 - 200) :
    Calls Try.prog 12 #[.slice A k.length c] w fun e w' => e = .returned (.agg (bcells (blockOf k)).toArray) ∧ Below w.heap.size w w' := by
  have HA := Lib.hid hA
  have hi64 : (Try.prog.info? 25).map (·.size) = some 64 := by kernel_rfl
  have hib : (Try.prog.info? 5).map (·.size) = some 1 := by kernel_rfl
  have hi32 : (Try.prog.info? 27).map (·.size) = some 32 := by kernel_rfl
  have HI64 := Lib.hid hi64
  have HIB := Lib.hid hib
  have HI32 := Lib.hid hi32
  have HSP : Hid ((bcells (blockOf k)).toArray.size = 64) := by unfold RowKit.Hid; rw [List.size_toArray, bcells_length, blockOf_len]
  have HONE := Lib.hid (cells_one32 (blockOf k))
  have hz : (bcells z64).length = 64 := rfl
  have HZ64 := Lib.hid hz
  clear hA hi64 hib hi32 hz
  by_cases hk : k.length ≤ 64
  · have HLS : Hid (mixC k (bcells z64) k.length = (bcells (blockOf k)).toArray) := by
      unfold RowKit.Hid blockOf keyOf
      rw [if_pos hk]
      exact mixC_last k hk
    have HSTP : Hid (∀ j (h : j < k.length), (mixC k (bcells z64) j).setIfInBounds j (.int .u8 (((k[j]'h).toNat : Nat) : Int)) = mixC k (bcells z64) (j + 1)) := fun j h => mixC_step k _ j h (by rw [HZ64.out]; exact hk)
    have HSZ : Hid (∀ j, j ≤ k.length → (mixC k (bcells z64) j).size = 64) := fun j h => by rw [mixC_size k _ j h (by rw [HZ64.out]; exact hk), HZ64.out]
    have HM0 : Hid (mixC k (bcells z64) 0 = Array.replicate 64 (.int .u8 0)) := by unfold RowKit.Hid; rw [mixC_zero, zero64]
    generalize blockOf k = bk at *
    generalize mixC k (bcells z64) = mc at *
    go_enter Try.func12, Try.ntmps12
    go_upto_region 2 with fail
    obtain ⟨W0, hW0⟩ : ∃ W0, W0 = (w.alloc (.cells (Array.replicate 64 (.int .u8 0)) 25)).alloc (.cells (Array.replicate 64 (.int .u8 0)) 25) := ⟨_, rfl⟩
    have HR0 : Hid (W0.heap[w.heap.size]? = some (.cells (Array.replicate 64 (.int .u8 0)) 25 (0, 0))) := by rw [hW0]; exact heap_alloc2_old _ _ _
    have HR1 : Hid (W0.heap[w.heap.size + 1]? = some (.cells (mc 0) 25 (0, 0))) := by rw [hW0, HM0.out]; exact heap_alloc2_new _ _ _
    have HB0 : Hid (Below w.heap.size w W0) := by rw [hW0]; exact ((Below.refl _ _).alloc (Nat.le_refl _) _).alloc (by simp) _
    refine wp_congr_world (W1 := W0) hW0 ?_
    clear hW0
    go_wp2_with fail
    go_loopw [6] (fun i wr => ∃ j : Nat, j ≤ k.length ∧ i = .int .i64 j ∧ Hid (wr.heap[w.heap.size + 1]? = some (.cells (mc j) 25 (0, 0))) ∧ Hid (wr.heap[w.heap.size]? = some (.cells (Array.replicate 64 (.int .u8 0)) 25 (0, 0))) ∧ Hid (Below w.heap.size w wr)) (fun i _ => k.length - (intOf i).toNat)
    case atStart => exact ⟨0, by omega, rfl, HR1, HR0, HB0⟩
    case round =>
      obtain ⟨j, hj, rfl, h3, h2, hB⟩ := hrel
      by_cases hlt : j < k.length
      · as_aux_lemma =>
          have HS := Lib.hid (HSTP.out j hlt)
          have HZ := Lib.hid (HSZ.out j hj)
          obtain ⟨bb, off, rfl, c0⟩ := (BSrc.at_ (HA.out.below hB.out (Nat.le_refl _))) j hlt
          generalize k[j]'hlt = y at *
          have r0 : (0 : Int) ≤ (j : Int) := by omega
          have r1 : (j : Int) < 64 := by omega
          have r2 : (j : Int) < (k.length : Int) := by omega
          go_wp2_with (refine wpList_store1 rfl 5 (.tmp 33) (.tmp 32) rfl (w.heap.size + 1) j .u8 _ rfl rfl h3.out (by rw [HZ.out]; omega) HIB.out ?_; intro y1 r1 m1; have R1 := Lib.hid r1; have G1 := Lib.hid m1; clear r1 m1)
          have E1 : Hid (y1.heap[w.heap.size + 1]? = some (.cells (mc (j + 1)) 25 (0, 0))) := by unfold RowKit.Hid; rw [← HS.out]; exact R1.out
          have E2 : Hid (y1.heap[w.heap.size]? = some (.cells (Array.replicate 64 (.int .u8 0)) 25 (0, 0))) := other_by G1.out (by omega) h2.out
          have E4 : Hid (Below w.heap.size w y1) := below_by hB.out G1.out hB.out.size (by omega)
          go_roundw
          case rel => exact ⟨j + 1, by omega, by go_num, E1, E2, E4⟩
          case measure => simp [intOf]; omega
      · obtain rfl : j = k.length := by omega
        rw [HLS.out] at h3
        go_wp2_with (first
          | refine wpList_load_row rfl 25 (.tmp 3) rfl (w.heap.size + 1) rfl _ _ _ (.array 64 5) h3.out (by kernel_rfl) rfl (by rw [HI64.out, HSP.out]) ?_
          | refine wpList_store_row rfl 25 (.tmp 2) (.tmp 34) rfl w.heap.size (bcells bk).toArray rfl rfl _ _ h2.out (by rw [HI64.out, HSP.out]) (by rw [HSP.out]; rfl) HONE.out ?_)
        exact bodyPost_ret (v := .agg (bcells bk).toArray) (results_cell_row (P := Try.prog) (d := .array 64 5) rfl _ _ w.heap.size _ _ _ rfl (setRow_heap _ _ _ _ _ _ h2.out) (by kernel_rfl) rfl (by rw [HI64.out, HSP.out])) rfl ⟨rfl, below_setRow hB.out (Nat.le_refl _)⟩
  · have hD := sumOf_len k
    have HLS : Hid (mixC (sumOf k) (bcells z64) 32 = (bcells (blockOf k)).toArray) := by
      unfold RowKit.Hid blockOf keyOf
      rw [if_neg hk]
      have := mixC_last (sumOf k) (by omega)
      rw [hD] at this
      rw [this, hD]
    have HSTP : Hid (∀ j, j < 32 → ∃ y : UInt8, (bcells (sumOf k)).toArray[j]? = some (.int .u8 (y.toNat : Int)) ∧ (mixC (sumOf k) (bcells z64) j).setIfInBounds j (.int .u8 ((y.toNat : Nat) : Int)) = mixC (sumOf k) (bcells z64) (j + 1)) := fun j h => by
      have hj : j < (sumOf k).length := by omega
      exact ⟨(sumOf k)[j]'hj, by rw [List.getElem?_toArray]; exact bcells_at _ j hj, mixC_step (sumOf k) _ j hj (by rw [HZ64.out]; omega)⟩
    have HSZ : Hid (∀ j, j ≤ 32 → (mixC (sumOf k) (bcells z64) j).size = 64) := fun j h => by rw [mixC_size _ _ j (by omega) (by rw [HZ64.out]; omega), HZ64.out]
    have HM0 : Hid (mixC (sumOf k) (bcells z64) 0 = Array.replicate 64 (.int .u8 0)) := by unfold RowKit.Hid; rw [mixC_zero, zero64]
    have HX := Lib.hid (fun (W : World) (h : BSrc W A c k) => refsum k A c W h (by omega))
    have HDO := Lib.hid (cells_one32 (sumOf k))
    have HDS : Hid ((bcells (sumOf k)).toArray.size = 32) := by unfold RowKit.Hid; rw [List.size_toArray, bcells_length, hD]
    clear hD
    generalize blockOf k = bk at *
    generalize mixC (sumOf k) (bcells z64) = mc at *
    generalize sumOf k = D at *
    go_enter Try.func12, Try.ntmps12
    go_upto_region 2 with fail
    obtain ⟨W0, hW0⟩ : ∃ W0, W0 = (w.alloc (.cells (Array.replicate 64 (.int .u8 0)) 25)).alloc (.cells (Array.replicate 64 (.int .u8 0)) 25) := ⟨_, rfl⟩
    have HR0 : Hid (W0.heap[w.heap.size]? = some (.cells (Array.replicate 64 (.int .u8 0)) 25 (0, 0))) := by rw [hW0]; exact heap_alloc2_old _ _ _
    have HR1 : Hid (W0.heap[w.heap.size + 1]? = some (.cells (mc 0) 25 (0, 0))) := by rw [hW0, HM0.out]; exact heap_alloc2_new _ _ _
    have HB0 : Hid (Below w.heap.size w W0) := by rw [hW0]; exact ((Below.refl _ _).alloc (Nat.le_refl _) _).alloc (by simp) _
    have HZ0 : Hid (W0.heap.size = w.heap.size + 2) := by rw [hW0]; simp [RowKit.Hid]
    refine wp_congr_world (W1 := W0) hW0 ?_
    clear hW0
    go_wp2_with fail
    refine (HX.out _ (HA.out.below HB0.out (Nat.le_refl _))).mono ?_
    rintro e w1 ⟨rfl, hb1⟩
    have HB1 := Lib.hid hb1
    clear hb1
    go_upto_region 4 with (refine wpList_store_row rfl 27 (.tmp 4) (.tmp 11) rfl w1.heap.size (bcells D).toArray rfl rfl _ _ (heap_alloc_new _ _) (by rw [HI32.out, HDS.out]) (by rw [HDS.out]; rfl) HDO.out ?_)
    obtain ⟨W3, hW3⟩ : ∃ W3, W3 = (w1.alloc (.cells (Array.replicate 32 (.int .u8 0)) 27)).setRow w1.heap.size (bcells D).toArray := ⟨_, rfl⟩
    have HD3 : Hid (W3.heap[w1.heap.size]? = some (.cells (bcells D).toArray 27 (0, 0))) := by rw [hW3]; exact setRow_heap _ _ _ _ _ _ (heap_alloc_new _ _)
    have HB3 : Hid (Below W0.heap.size W0 W3) := by rw [hW3]; exact below_setRow (HB1.out.alloc HB1.out.size _) HB1.out.size
    refine wp_congr_world (W1 := W3) hW3 ?_
    clear hW3
    have HR2 := Lib.hid ((HB3.out.block _ (by have := HZ0.out; omega)).trans HR1.out)
    have HRR := Lib.hid ((HB3.out.block _ (by have := HZ0.out; omega)).trans HR0.out)
    have HB5 := Lib.hid (HB0.out.trans (HB3.out.mono HB0.out.size))
    have HNE : Hid (w.heap.size + 2 ≤ w1.heap.size) := by have h1 := HB1.out.size; have h2 := HZ0.out; unfold RowKit.Hid; omega
    go_wp2_with fail
    go_loopw [5] (fun i wr => ∃ j : Nat, j ≤ 32 ∧ i = .int .i64 j ∧ Hid (wr.heap[w.heap.size + 1]? = some (.cells (mc j) 25 (0, 0))) ∧ Hid (wr.heap[w.heap.size]? = some (.cells (Array.replicate 64 (.int .u8 0)) 25 (0, 0))) ∧ Hid (wr.heap[w1.heap.size]? = some (.cells (bcells D).toArray 27 (0, 0))) ∧ Hid (Below w.heap.size w wr)) (fun i _ => 32 - (intOf i).toNat)
    case atStart => exact ⟨0, by omega, rfl, HR2, HRR, HD3, HB5⟩
    case round =>
      obtain ⟨j, hj, rfl, h3, h2, h4, hB⟩ := hrel
      by_cases hlt : j < 32
      · as_aux_lemma =>
          obtain ⟨y, hy1, hy2⟩ := HSTP.out j hlt
          have HS := Lib.hid hy2
          have HZ := Lib.hid (HSZ.out j hj)
          have c0 := (cell_of_row wr w1.heap.size j _ _ (0, 0) h4.out).trans hy1
          clear hy1 hy2
          have r0 : (0 : Int) ≤ (j : Int) := by omega
          have r1 : (j : Int) < 64 := by omega
          have r2 : (j : Int) < 32 := by omega
          go_wp2_with (refine wpList_store1 rfl 5 (.tmp 20) (.tmp 19) rfl (w.heap.size + 1) j .u8 _ rfl rfl h3.out (by rw [HZ.out]; omega) HIB.out ?_; intro y1 r1 m1; have R1 := Lib.hid r1; have G1 := Lib.hid m1; clear r1 m1)
          have E1 : Hid (y1.heap[w.heap.size + 1]? = some (.cells (mc (j + 1)) 25 (0, 0))) := by unfold RowKit.Hid; rw [← HS.out]; exact R1.out
          have E2 : Hid (y1.heap[w.heap.size]? = some (.cells (Array.replicate 64 (.int .u8 0)) 25 (0, 0))) := other_by G1.out (by omega) h2.out
          have E3 : Hid (y1.heap[w1.heap.size]? = some (.cells (bcells D).toArray 27 (0, 0))) := other_by G1.out (by have := HNE.out; omega) h4.out
          have E4 : Hid (Below w.heap.size w y1) := below_by hB.out G1.out hB.out.size (by omega)
          go_roundw
          case rel => exact ⟨j + 1, by omega, by go_num, E1, E2, E3, E4⟩
          case measure => simp [intOf]; omega
      · obtain rfl : j = 32 := by omega
        rw [HLS.out] at h3
        go_wp2_with (first
          | refine wpList_load_row rfl 25 (.tmp 3) rfl (w.heap.size + 1) rfl _ _ _ (.array 64 5) h3.out (by kernel_rfl) rfl (by rw [HI64.out, HSP.out]) ?_
          | refine wpList_store_row rfl 25 (.tmp 2) (.tmp 21) rfl w.heap.size (bcells bk).toArray rfl rfl _ _ h2.out (by rw [HI64.out, HSP.out]) (by rw [HSP.out]; rfl) HONE.out ?_)
        exact bodyPost_ret (v := .agg (bcells bk).toArray) (results_cell_row (P := Try.prog) (d := .array 64 5) rfl _ _ w.heap.size _ _ _ rfl (setRow_heap _ _ _ _ _ _ h2.out) (by kernel_rfl) rfl (by rw [HI64.out, HSP.out])) rfl ⟨rfl, below_setRow hB.out (Nat.le_refl _)⟩
end Go.Proofs.Ytofjfpnkdcpngaa
