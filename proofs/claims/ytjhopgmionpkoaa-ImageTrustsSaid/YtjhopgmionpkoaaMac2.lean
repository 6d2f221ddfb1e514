/-
  A mixed block and bytes behind it, by the reference of mac.
  A key as a block, by the reference of mac.
  The tag, by the reference of mac.
  Strings of bytes that are compared, and a row as bytes at an address.
-/
import Derived.Test.YtjhopgmionpkoaaMac1
import Derived.Test.YtjhopgmionpkoaaCells
namespace Go.Proofs.Ytjhopgmionpkoaa
set_option maxRecDepth 20000
open Go.RowKit Mem

theorem mix_one (x : UInt8) (l : List UInt8) (k : Nat) (h : k < l.length) : bcells (mixB x (l.take (k + 1))) = bcells (mixB x (l.take k)) ++ [.int .u8 ((((l[k]'h) ^^^ x).toNat : Nat) : Int)] := by
  rw [List.take_succ_eq_append_getElem h]
  unfold mixB
  rw [List.map_append, bcells_append]
  rfl
set_option maxRecDepth 100000 in
set_option maxHeartbeats 4000000 in
theorem refmixed (blk : List UInt8) (hblk : blk.length = 64) (x : UInt8) (n : Int) (hn : n = (x.toNat : Int)) (b : List UInt8) (A : Option Addr) (c : Nat) (w : World) (hA : BSrc w A c b) (hm : b.length ≤ 140737488351232 - 200) :
    Calls Try.prog 97 #[.agg (bcells blk).toArray, .int .u8 n, .slice A b.length c] w fun e w' => ∃ v, e = .returned v ∧ w'.ownsRow w.heap.size 5 1 v (64 + b.length) (bcells (mixB x blk ++ b)) ∧ Below w.heap.size w w' := by
  subst hn
  have HA := Lib.hid hA
  have HL := Lib.hid hblk
  have HFIN : Hid (bcells (mixB x blk ++ b) = bcells (mixB x (blk.take 64)) ++ bcells b) := by
    unfold RowKit.Hid; rw [bcells_append, List.take_of_length_le (by omega)]
  have hx := x.toNat_lt
  clear hA
  obtain ⟨i0, hi, hi0, hi1, hi2⟩ := info_parts infoByte
  go_enter Try.func97, Try.ntmps97
  go_upto_region 1 with fail
  obtain ⟨W1, hW1⟩ : ∃ W1, W1 = w.alloc (.cells (bcells blk).toArray 69) := ⟨_, rfl⟩
  have HK : Hid (W1.heap[w.heap.size]? = some (.cells (bcells blk).toArray 69 (0, 0))) := by rw [hW1]; exact heap_alloc_new _ _
  have HB1 : Hid (Below w.heap.size w W1) := by rw [hW1]; exact (Below.refl _ _).alloc (Nat.le_refl _) _
  refine wp_congr_world (W1 := W1) hW1 ?_
  have HKL : Hid (w.heap.size < W1.heap.size) := (Array.getElem?_eq_some_iff.1 HK.out).1
  clear hW1
  go_wp2_with fail
  go_loopw [7, 8] (fun v i wr => ∃ j : Nat, j ≤ 64 ∧ i = .int .i64 j ∧ Hid (wr.ownsRow W1.heap.size 5 1 v j (bcells (mixB x (blk.take j)))) ∧ Hid (Below W1.heap.size W1 wr)) (fun _ i _ => 64 - (intOf i).toNat)
  case atStart => exact ⟨0, by omega, rfl, World.ownsRow_nil _ _ _ _, Below.refl _ _⟩
  case round =>
    obtain ⟨j, hj, rfl, hv, hB⟩ := hrel
    by_cases hlt : j < 64
    · as_aux_lemma =>
        have hjl : j < blk.length := by rw [HL.out]; exact hlt
        have cb : wr.cell? ⟨w.heap.size, j, none⟩ = some (.int .u8 ((blk[j]'hjl).toNat : Int)) := by
          rw [cell_of_row wr w.heap.size j _ _ (0, 0) ((hB.out.block _ HKL.out).trans HK.out), List.getElem?_toArray]; exact bcells_at blk j hjl
        have HM := Lib.hid (mix_one x blk j hjl)
        have HX := Lib.hid (b_xor (blk[j]'hjl) x)
        generalize blk[j]'hjl = y at *
        have r0 : (0 : Int) ≤ j := by omega
        have r1 : (j : Int) < 64 := by omega
        have hbz := hB.out.size
        go_wp2_with (at_builtin; refine wpList_append_own _ rfl _ _ 31 rfl W1.heap.size 5 i0 (.int .u8 0) 1 1 Try.underlying31 hi hi0 hi1 hi2 rfl (by decide) _ _ _ rfl (hv.out.alloc _) ⟨wr.heap.size, 0, none⟩ 1 1 [.int .u8 (bits .xor .u8 (y.toNat : Int) (x.toNat : Int))] rfl rfl ?c1 ?c2 ?c3 ?c4 ?c5 ?_)
        case c1 => exact cells_new _ _ _ _ rfl
        case c2 => intro u hu; rw [List.mem_singleton] at hu; subst hu; rfl
        case c3 => unfold maxLen; omega
        case c4 => omega
        case c5 => simp; omega
        intro v2 w3 hown2 hg2 _
        have HBa : Hid (Below W1.heap.size W1 w3) := (hB.out.alloc hbz _).grown hg2 (by simp; omega) (fun g hg => (hv.out.lt g hg).1)
        rw [HX.out, ← HM.out] at hown2
        have HV3 := Lib.hid hown2
        clear hown2 hg2
        go_wp2_with fail
        go_roundw
        case rel => exact ⟨j + 1, by omega, by go_num, HV3, HBa⟩
        case measure => simp [intOf]; omega
    · obtain rfl : j = 64 := by omega
      obtain ⟨A2, c2, rfl⟩ := own_slice hv.out
      have HBW := Lib.hid (HB1.out.trans (hB.out.mono HB1.out.size))
      go_wp2_with (at_builtin; refine wpList_app_any rfl (.tmp 21) (.tmp 22) 31 rfl W1.heap.size 5 i0 (.int .u8 0) 1 1 Try.underlying31 hi hi0 hi1 hi2 rfl (by decide) (.slice A2 64 c2) 64 (bcells (mixB x (blk.take 64))) rfl hv.out A b.length c (bcells b) rfl (HA.out.below HBW.out (Nat.le_refl _)) (bcells_one b) ?d3 ?d4 hB.out.size ?_)
      case d3 => unfold maxLen; omega
      case d4 => omega
      intro v3 w4 hown3 hg3
      have HB4 : Hid (Below W1.heap.size W1 w4) := hB.out.trans (below_of_grown hg3 hB.out.size (fun g hg => (hv.out.lt g hg).1))
      rw [← HFIN.out] at hown3
      have HO4 : Hid (w4.ownsRow w.heap.size 5 1 v3 (64 + b.length) (bcells (mixB x blk ++ b))) := own_base hown3 (Nat.le_of_lt HKL.out)
      have HB5 := Lib.hid (HB1.out.trans (HB4.out.mono HB1.out.size))
      clear hown3 hg3 HFIN
      go_wp2_with fail
      go_ret
      exact ⟨_, rfl, HO4.out, HB5.out⟩
end Go.Proofs.Ytjhopgmionpkoaa
namespace Go.Proofs.Ytjhopgmionpkoaa
set_option maxRecDepth 20000
open Go.RowKit Mem

theorem mixC_last (m : List UInt8) (_ : m.length ≤ 64) : mixC m (bcells z64) m.length = (bcells (m ++ List.replicate (64 - m.length) 0)).toArray := by
  unfold mixC
  rw [List.take_length, bcells_append]
  congr 2
  unfold bcells z64
  rw [List.map_replicate, List.map_replicate, List.drop_replicate]
set_option maxRecDepth 100000 in
set_option maxHeartbeats 4000000 in
theorem refblock (k : List UInt8) (A : Option Addr) (c : Nat) (w : World) (hA : BSrc w A c k) (hm : k.length ≤ 140737488351232 - 200) :
    Calls Try.prog 95 #[.slice A k.length c] w fun e w' => e = .returned (.agg (bcells (blockOf k)).toArray) ∧ Below w.heap.size w w' := by
  have HA := Lib.hid hA
  have hi64 : (Try.prog.info? 69).map (·.size) = some 64 := by kernel_rfl
  have hib : (Try.prog.info? 5).map (·.size) = some 1 := by kernel_rfl
  have hi32 : (Try.prog.info? 44).map (·.size) = some 32 := by kernel_rfl
  have HI64 := Lib.hid hi64
  have HIB := Lib.hid hib
  have HI32 := Lib.hid hi32
  have HSP : Hid ((bcells (blockOf k)).toArray.size = 64) := by unfold RowKit.Hid; rw [List.size_toArray, bcells_length, blockOf_len]
  have HONE := Lib.hid (cells_one32 (blockOf k))
  have hz : (bcells z64).length = 64 := rfl
  have HZ64 := Lib.hid hz
  clear hA hi64 hib hi32 hz
  by_cases hk : k.length ≤ 64
  · have HLS : Hid (mixC k (bcells z64) k.length = (bcells (blockOf k)).toArray) := by
      unfold RowKit.Hid blockOf keyOf
      rw [if_pos hk]
      exact mixC_last k hk
    have HSTP : Hid (∀ j (h : j < k.length), (mixC k (bcells z64) j).setIfInBounds j (.int .u8 (((k[j]'h).toNat : Nat) : Int)) = mixC k (bcells z64) (j + 1)) := fun j h => mixC_step k _ j h (by rw [HZ64.out]; exact hk)
    have HSZ : Hid (∀ j, j ≤ k.length → (mixC k (bcells z64) j).size = 64) := fun j h => by rw [mixC_size k _ j h (by rw [HZ64.out]; exact hk), HZ64.out]
    have HM0 : Hid (mixC k (bcells z64) 0 = Array.replicate 64 (.int .u8 0)) := by unfold RowKit.Hid; rw [mixC_zero, zero64]
    generalize blockOf k = bk at *
    generalize mixC k (bcells z64) = mc at *
    go_enter Try.func95, Try.ntmps95
    go_upto_region 2 with fail
    obtain ⟨W0, hW0⟩ : ∃ W0, W0 = (w.alloc (.cells (Array.replicate 64 (.int .u8 0)) 69)).alloc (.cells (Array.replicate 64 (.int .u8 0)) 69) := ⟨_, rfl⟩
    have HR0 : Hid (W0.heap[w.heap.size]? = some (.cells (Array.replicate 64 (.int .u8 0)) 69 (0, 0))) := by rw [hW0]; exact heap_alloc2_old _ _ _
    have HR1 : Hid (W0.heap[w.heap.size + 1]? = some (.cells (mc 0) 69 (0, 0))) := by rw [hW0, HM0.out]; exact heap_alloc2_new _ _ _
    have HB0 : Hid (Below w.heap.size w W0) := by rw [hW0]; exact ((Below.refl _ _).alloc (Nat.le_refl _) _).alloc (by simp) _
    refine wp_congr_world (W1 := W0) hW0 ?_
    clear hW0
    go_wp2_with fail
    go_loopw [6] (fun i wr => ∃ j : Nat, j ≤ k.length ∧ i = .int .i64 j ∧ Hid (wr.heap[w.heap.size + 1]? = some (.cells (mc j) 69 (0, 0))) ∧ Hid (wr.heap[w.heap.size]? = some (.cells (Array.replicate 64 (.int .u8 0)) 69 (0, 0))) ∧ Hid (Below w.heap.size w wr)) (fun i _ => k.length - (intOf i).toNat)
    case atStart => exact ⟨0, by omega, rfl, HR1, HR0, HB0⟩
    case round =>
      obtain ⟨j, hj, rfl, h3, h2, hB⟩ := hrel
      by_cases hlt : j < k.length
      · as_aux_lemma =>
          have HS := Lib.hid (HSTP.out j hlt)
          have HZ := Lib.hid (HSZ.out j hj)
          obtain ⟨bb, off, rfl, c0⟩ := (BSrc.at_ (HA.out.below hB.out (Nat.le_refl _))) j hlt
          generalize k[j]'hlt = y at *
          have r0 : (0 : Int) ≤ (j : Int) := by omega
          have r1 : (j : Int) < 64 := by omega
          have r2 : (j : Int) < (k.length : Int) := by omega
          go_wp2_with (refine wpList_store1 rfl 5 (.tmp 33) (.tmp 32) rfl (w.heap.size + 1) j .u8 _ rfl rfl h3.out (by rw [HZ.out]; omega) HIB.out ?_; intro y1 r1 m1; have R1 := Lib.hid r1; have G1 := Lib.hid m1; clear r1 m1)
          have E1 : Hid (y1.heap[w.heap.size + 1]? = some (.cells (mc (j + 1)) 69 (0, 0))) := by unfold RowKit.Hid; rw [← HS.out]; exact R1.out
          have E2 : Hid (y1.heap[w.heap.size]? = some (.cells (Array.replicate 64 (.int .u8 0)) 69 (0, 0))) := other_by G1.out (by omega) h2.out
          have E4 : Hid (Below w.heap.size w y1) := below_by hB.out G1.out hB.out.size (by omega)
          go_roundw
          case rel => exact ⟨j + 1, by omega, by go_num, E1, E2, E4⟩
          case measure => simp [intOf]; omega
      · obtain rfl : j = k.length := by omega
        rw [HLS.out] at h3
        go_wp2_with (first
          | refine wpList_load_row rfl 69 (.tmp 3) rfl (w.heap.size + 1) rfl _ _ _ (.array 64 5) h3.out (by kernel_rfl) rfl (by rw [HI64.out, HSP.out]) ?_
          | refine wpList_store_row rfl 69 (.tmp 2) (.tmp 34) rfl w.heap.size (bcells bk).toArray rfl rfl _ _ h2.out (by rw [HI64.out, HSP.out]) (by rw [HSP.out]; rfl) HONE.out ?_)
        exact bodyPost_ret (v := .agg (bcells bk).toArray) (results_cell_row (P := Try.prog) (d := .array 64 5) rfl _ _ w.heap.size _ _ _ rfl (setRow_heap _ _ _ _ _ _ h2.out) (by kernel_rfl) rfl (by rw [HI64.out, HSP.out])) rfl ⟨rfl, below_setRow hB.out (Nat.le_refl _)⟩
  · have hD := sumOf_len k
    have HLS : Hid (mixC (sumOf k) (bcells z64) 32 = (bcells (blockOf k)).toArray) := by
      unfold RowKit.Hid blockOf keyOf
      rw [if_neg hk]
      have := mixC_last (sumOf k) (by omega)
      rw [hD] at this
      rw [this, hD]
    have HSTP : Hid (∀ j, j < 32 → ∃ y : UInt8, (bcells (sumOf k)).toArray[j]? = some (.int .u8 (y.toNat : Int)) ∧ (mixC (sumOf k) (bcells z64) j).setIfInBounds j (.int .u8 ((y.toNat : Nat) : Int)) = mixC (sumOf k) (bcells z64) (j + 1)) := fun j h => by
      have hj : j < (sumOf k).length := by omega
      exact ⟨(sumOf k)[j]'hj, by rw [List.getElem?_toArray]; exact bcells_at _ j hj, mixC_step (sumOf k) _ j hj (by rw [HZ64.out]; omega)⟩
    have HSZ : Hid (∀ j, j ≤ 32 → (mixC (sumOf k) (bcells z64) j).size = 64) := fun j h => by rw [mixC_size _ _ j (by omega) (by rw [HZ64.out]; omega), HZ64.out]
    have HM0 : Hid (mixC (sumOf k) (bcells z64) 0 = Array.replicate 64 (.int .u8 0)) := by unfold RowKit.Hid; rw [mixC_zero, zero64]
    have HX := Lib.hid (fun (W : World) (h : BSrc W A c k) => refsum k A c W h (by omega))
    have HDO := Lib.hid (cells_one32 (sumOf k))
    have HDS : Hid ((bcells (sumOf k)).toArray.size = 32) := by unfold RowKit.Hid; rw [List.size_toArray, bcells_length, hD]
    clear hD
    generalize blockOf k = bk at *
    generalize mixC (sumOf k) (bcells z64) = mc at *
    generalize sumOf k = D at *
    go_enter Try.func95, Try.ntmps95
    go_upto_region 2 with fail
    obtain ⟨W0, hW0⟩ : ∃ W0, W0 = (w.alloc (.cells (Array.replicate 64 (.int .u8 0)) 69)).alloc (.cells (Array.replicate 64 (.int .u8 0)) 69) := ⟨_, rfl⟩
    have HR0 : Hid (W0.heap[w.heap.size]? = some (.cells (Array.replicate 64 (.int .u8 0)) 69 (0, 0))) := by rw [hW0]; exact heap_alloc2_old _ _ _
    have HR1 : Hid (W0.heap[w.heap.size + 1]? = some (.cells (mc 0) 69 (0, 0))) := by rw [hW0, HM0.out]; exact heap_alloc2_new _ _ _
    have HB0 : Hid (Below w.heap.size w W0) := by rw [hW0]; exact ((Below.refl _ _).alloc (Nat.le_refl _) _).alloc (by simp) _
    have HZ0 : Hid (W0.heap.size = w.heap.size + 2) := by rw [hW0]; simp [RowKit.Hid]
    refine wp_congr_world (W1 := W0) hW0 ?_
    clear hW0
    go_wp2_with fail
    refine (HX.out _ (HA.out.below HB0.out (Nat.le_refl _))).mono ?_
    rintro e w1 ⟨rfl, hb1⟩
    have HB1 := Lib.hid hb1
    clear hb1
    go_upto_region 4 with (refine wpList_store_row rfl 44 (.tmp 4) (.tmp 11) rfl w1.heap.size (bcells D).toArray rfl rfl _ _ (heap_alloc_new _ _) (by rw [HI32.out, HDS.out]) (by rw [HDS.out]; rfl) HDO.out ?_)
    obtain ⟨W3, hW3⟩ : ∃ W3, W3 = (w1.alloc (.cells (Array.replicate 32 (.int .u8 0)) 44)).setRow w1.heap.size (bcells D).toArray := ⟨_, rfl⟩
    have HD3 : Hid (W3.heap[w1.heap.size]? = some (.cells (bcells D).toArray 44 (0, 0))) := by rw [hW3]; exact setRow_heap _ _ _ _ _ _ (heap_alloc_new _ _)
    have HB3 : Hid (Below W0.heap.size W0 W3) := by rw [hW3]; exact below_setRow (HB1.out.alloc HB1.out.size _) HB1.out.size
    refine wp_congr_world (W1 := W3) hW3 ?_
    clear hW3
    have HR2 := Lib.hid ((HB3.out.block _ (by have := HZ0.out; omega)).trans HR1.out)
    have HRR := Lib.hid ((HB3.out.block _ (by have := HZ0.out; omega)).trans HR0.out)
    have HB5 := Lib.hid (HB0.out.trans (HB3.out.mono HB0.out.size))
    have HNE : Hid (w.heap.size + 2 ≤ w1.heap.size) := by have h1 := HB1.out.size; have h2 := HZ0.out; unfold RowKit.Hid; omega
    go_wp2_with fail
    go_loopw [5] (fun i wr => ∃ j : Nat, j ≤ 32 ∧ i = .int .i64 j ∧ Hid (wr.heap[w.heap.size + 1]? = some (.cells (mc j) 69 (0, 0))) ∧ Hid (wr.heap[w.heap.size]? = some (.cells (Array.replicate 64 (.int .u8 0)) 69 (0, 0))) ∧ Hid (wr.heap[w1.heap.size]? = some (.cells (bcells D).toArray 44 (0, 0))) ∧ Hid (Below w.heap.size w wr)) (fun i _ => 32 - (intOf i).toNat)
    case atStart => exact ⟨0, by omega, rfl, HR2, HRR, HD3, HB5⟩
    case round =>
      obtain ⟨j, hj, rfl, h3, h2, h4, hB⟩ := hrel
      by_cases hlt : j < 32
      · as_aux_lemma =>
          obtain ⟨y, hy1, hy2⟩ := HSTP.out j hlt
          have HS := Lib.hid hy2
          have HZ := Lib.hid (HSZ.out j hj)
          have c0 := (cell_of_row wr w1.heap.size j _ _ (0, 0) h4.out).trans hy1
          clear hy1 hy2
          have r0 : (0 : Int) ≤ (j : Int) := by omega
          have r1 : (j : Int) < 64 := by omega
          have r2 : (j : Int) < 32 := by omega
          go_wp2_with (refine wpList_store1 rfl 5 (.tmp 20) (.tmp 19) rfl (w.heap.size + 1) j .u8 _ rfl rfl h3.out (by rw [HZ.out]; omega) HIB.out ?_; intro y1 r1 m1; have R1 := Lib.hid r1; have G1 := Lib.hid m1; clear r1 m1)
          have E1 : Hid (y1.heap[w.heap.size + 1]? = some (.cells (mc (j + 1)) 69 (0, 0))) := by unfold RowKit.Hid; rw [← HS.out]; exact R1.out
          have E2 : Hid (y1.heap[w.heap.size]? = some (.cells (Array.replicate 64 (.int .u8 0)) 69 (0, 0))) := other_by G1.out (by omega) h2.out
          have E3 : Hid (y1.heap[w1.heap.size]? = some (.cells (bcells D).toArray 44 (0, 0))) := other_by G1.out (by have := HNE.out; omega) h4.out
          have E4 : Hid (Below w.heap.size w y1) := below_by hB.out G1.out hB.out.size (by omega)
          go_roundw
          case rel => exact ⟨j + 1, by omega, by go_num, E1, E2, E3, E4⟩
          case measure => simp [intOf]; omega
      · obtain rfl : j = 32 := by omega
        rw [HLS.out] at h3
        go_wp2_with (first
          | refine wpList_load_row rfl 69 (.tmp 3) rfl (w.heap.size + 1) rfl _ _ _ (.array 64 5) h3.out (by kernel_rfl) rfl (by rw [HI64.out, HSP.out]) ?_
          | refine wpList_store_row rfl 69 (.tmp 2) (.tmp 21) rfl w.heap.size (bcells bk).toArray rfl rfl _ _ h2.out (by rw [HI64.out, HSP.out]) (by rw [HSP.out]; rfl) HONE.out ?_)
        exact bodyPost_ret (v := .agg (bcells bk).toArray) (results_cell_row (P := Try.prog) (d := .array 64 5) rfl _ _ w.heap.size _ _ _ rfl (setRow_heap _ _ _ _ _ _ h2.out) (by kernel_rfl) rfl (by rw [HI64.out, HSP.out])) rfl ⟨rfl, below_setRow hB.out (Nat.le_refl _)⟩
end Go.Proofs.Ytjhopgmionpkoaa
namespace Go.Proofs.Ytjhopgmionpkoaa
set_option maxRecDepth 20000
open Go.RowKit Mem

set_option maxRecDepth 100000 in
set_option maxHeartbeats 4000000 in
theorem reftag (k b : List UInt8) (A A' : Option Addr) (c c' : Nat) (w : World) (hA : BSrc w A c k) (hm : k.length ≤ 140737488351232 - 200) (hA' : BSrc w A' c' b) (hb : b.length ≤ 140737488351232 - 200) :
    Calls Try.prog 79 #[.slice A k.length c, .slice A' b.length c'] w fun e w' => e = .returned (.agg (bcells (tagOf k b)).toArray) ∧ Below w.heap.size w w' := by
  have HA := Lib.hid hA
  have HA' := Lib.hid hA'
  have hi64 : (Try.prog.info? 69).map (·.size) = some 64 := by kernel_rfl
  have hi32 : (Try.prog.info? 44).map (·.size) = some 32 := by kernel_rfl
  have HI64 := Lib.hid hi64
  have HI32 := Lib.hid hi32
  have HBK := Lib.hid (fun (W : World) (h : BSrc W A c k) => refblock k A c W h hm)
  have HD1 := Lib.hid (fun (W : World) (h : BSrc W A' c' b) => refmixed (blockOf k) (blockOf_len k) 54 54 rfl b A' c' W h hb)
  have HE1 : Hid (∀ (A2 : Option Addr) (c2 base : Nat) (W : World), W.ownsRow base 5 1 (.slice A2 (64 + b.length) c2) (64 + b.length) (bcells (mixB 54 (blockOf k) ++ b)) → Calls Try.prog 96 #[.slice A2 (64 + b.length) c2] W fun e w' => e = .returned (.agg (bcells (innerOf k b)).toArray) ∧ Below W.heap.size W w') := fun A2 c2 base W h => by
    have hl : (mixB 54 (blockOf k) ++ b).length = 64 + b.length := by rw [List.length_append, mixB_len, blockOf_len]
    have hs : BSrc W A2 c2 (mixB 54 (blockOf k) ++ b) := by show Src W _ (mixB 54 (blockOf k) ++ b).length c2 _ 1; rw [hl]; exact Src.of_own h
    have := refsum (mixB 54 (blockOf k) ++ b) A2 c2 W hs (by rw [hl]; omega)
    rw [hl] at this
    exact this
  have HD2 := Lib.hid (fun (g : Nat) (W : World) (h : Src W (some ⟨g, 0, none⟩) 32 32 (bcells (innerOf k b)) 1) => by
    have h' : BSrc W (some ⟨g, 0, none⟩) 32 (innerOf k b) := by have e : (innerOf k b).length = 32 := innerOf_len k b; show Src W _ (innerOf k b).length 32 _ 1; rw [e]; exact h
    have := refmixed (blockOf k) (blockOf_len k) 92 92 rfl (innerOf k b) (some ⟨g, 0, none⟩) 32 W h' (by rw [innerOf_len]; decide)
    rw [innerOf_len] at this
    exact this)
  have HE2 : Hid (∀ (v : Value) (base : Nat) (W : World), W.ownsRow base 5 1 v (64 + 32) (bcells (mixB 92 (blockOf k) ++ innerOf k b)) → Calls Try.prog 96 #[v] W fun e w' => e = .returned (.agg (bcells (tagOf k b)).toArray) ∧ Below W.heap.size W w') := fun v base W h => by
    obtain ⟨A2, c2, rfl⟩ := own_slice h
    have hl : (mixB 92 (blockOf k) ++ innerOf k b).length = 64 + 32 := by rw [List.length_append, mixB_len, blockOf_len, innerOf_len]
    have hs : BSrc W A2 c2 (mixB 92 (blockOf k) ++ innerOf k b) := by show Src W _ (mixB 92 (blockOf k) ++ innerOf k b).length c2 _ 1; rw [hl]; exact Src.of_own h
    have := refsum (mixB 92 (blockOf k) ++ innerOf k b) A2 c2 W hs (by rw [hl]; omega)
    rw [hl] at this
    exact this
  have HL1 := Lib.hid (blockOf_len k)
  have HL2 := Lib.hid (innerOf_len k b)
  have HL3 := Lib.hid (tagOf_len k b)
  clear hA hA' hi64 hi32
  have HO1 := Lib.hid (cells_one32 (blockOf k))
  have HO2 := Lib.hid (cells_one32 (innerOf k b))
  have HO3 := Lib.hid (cells_one32 (tagOf k b))
  generalize mixB 54 (blockOf k) ++ b = m1 at *
  generalize mixB 92 (blockOf k) ++ innerOf k b = m2 at *
  generalize blockOf k = blk at *
  generalize innerOf k b = d1 at *
  obtain ⟨D, hD⟩ : ∃ D, D = tagOf k b := ⟨_, rfl⟩
  rw [← hD] at HE2 HL3 HO3
  have HD := Lib.hid hD
  clear hD
  have HS1 : Hid ((bcells blk).toArray.size = 64) := by unfold RowKit.Hid; rw [List.size_toArray, bcells_length, HL1.out]
  have HS2 : Hid ((bcells d1).toArray.size = 32) := by unfold RowKit.Hid; rw [List.size_toArray, bcells_length, HL2.out]
  have HS3 : Hid ((bcells D).toArray.size = 32) := by unfold RowKit.Hid; rw [List.size_toArray, bcells_length, HL3.out]
  go_enter Try.func79, Try.ntmps79
  go_upto_region 1 with fail
  obtain ⟨W0, hW0⟩ : ∃ W0, W0 = w.alloc (.cells (Array.replicate 32 (.int .u8 0)) 44) := ⟨_, rfl⟩
  have HR0 : Hid (W0.heap[w.heap.size]? = some (.cells (Array.replicate 32 (.int .u8 0)) 44 (0, 0))) := by rw [hW0]; exact heap_alloc_new _ _
  have HB0 : Hid (Below w.heap.size w W0) := by rw [hW0]; exact (Below.refl _ _).alloc (Nat.le_refl _) _
  refine wp_congr_world (W1 := W0) hW0 ?_
  clear hW0
  go_wp2_with fail
  refine (HBK.out _ (HA.out.below HB0.out (Nat.le_refl _))).mono ?_
  rintro e w1 ⟨rfl, hb1⟩
  have HB1 := Lib.hid (HB0.out.trans (hb1.mono HB0.out.size))
  have HR1 := Lib.hid ((hb1.block _ (Array.getElem?_eq_some_iff.1 HR0.out).1).trans HR0.out)
  clear hb1
  go_upto_region 2 with (refine wpList_store_row rfl 69 (.tmp 5) (.tmp 8) rfl w1.heap.size (bcells blk).toArray rfl rfl _ _ (heap_alloc_new _ _) (by rw [HI64.out, HS1.out]) (by rw [HS1.out]; rfl) HO1.out ?_)
  obtain ⟨W2, hW2⟩ : ∃ W2, W2 = (w1.alloc (.cells (Array.replicate 64 (.int .u8 0)) 69)).setRow w1.heap.size (bcells blk).toArray := ⟨_, rfl⟩
  have HK2 : Hid (W2.heap[w1.heap.size]? = some (.cells (bcells blk).toArray 69 (0, 0))) := by rw [hW2]; exact setRow_heap _ _ _ _ _ _ (heap_alloc_new _ _)
  have hb2 : Below w1.heap.size w1 W2 := by rw [hW2]; exact below_setRow ((Below.refl _ _).alloc (Nat.le_refl _) _) (Nat.le_refl _)
  refine wp_congr_world (W1 := W2) hW2 ?_
  have HB2 := Lib.hid (HB1.out.trans (hb2.mono HB1.out.size))
  have HR2 := Lib.hid ((hb2.block _ (Array.getElem?_eq_some_iff.1 HR1.out).1).trans HR1.out)
  have HNE1 : Hid (w.heap.size < w1.heap.size) := (Array.getElem?_eq_some_iff.1 HR1.out).1
  clear hW2 hb2
  go_wp2_with (refine wpList_load_row rfl 69 (.tmp 5) rfl w1.heap.size rfl _ _ _ (.array 64 5) HK2.out (by kernel_rfl) rfl (by rw [HI64.out, HS1.out]) ?_)
  refine (HD1.out _ (HA'.out.below HB2.out (Nat.le_refl _))).mono ?_
  rintro e w2a ⟨v, rfl, how, hb2a⟩
  obtain ⟨A2, c2, rfl⟩ := own_slice how
  have HOW := Lib.hid how
  have HB2a := Lib.hid hb2a
  clear how hb2a
  go_wp2_with fail
  refine (HE1.out A2 c2 _ _ HOW.out).mono ?_
  rintro e w3 ⟨rfl, hb3b⟩
  have hb3 := HB2a.out.trans (hb3b.mono HB2a.out.size)
  clear hb3b
  have HB3 := Lib.hid (HB2.out.trans (hb3.mono HB2.out.size))
  have HR3 := Lib.hid ((hb3.block _ (Array.getElem?_eq_some_iff.1 HR2.out).1).trans HR2.out)
  have HK3 := Lib.hid ((hb3.block _ (Array.getElem?_eq_some_iff.1 HK2.out).1).trans HK2.out)
  clear hb3
  go_upto_region 3 with (refine wpList_store_row rfl 44 (.tmp 6) (.tmp 12) rfl w3.heap.size (bcells d1).toArray rfl rfl _ _ (heap_alloc_new _ _) (by rw [HI32.out, HS2.out]) (by rw [HS2.out]; rfl) HO2.out ?_)
  obtain ⟨W4, hW4⟩ : ∃ W4, W4 = (w3.alloc (.cells (Array.replicate 32 (.int .u8 0)) 44)).setRow w3.heap.size (bcells d1).toArray := ⟨_, rfl⟩
  have HD4 : Hid (W4.heap[w3.heap.size]? = some (.cells (bcells d1).toArray 44 (0, 0))) := by rw [hW4]; exact setRow_heap _ _ _ _ _ _ (heap_alloc_new _ _)
  have hb4 : Below w3.heap.size w3 W4 := by rw [hW4]; exact below_setRow ((Below.refl _ _).alloc (Nat.le_refl _) _) (Nat.le_refl _)
  refine wp_congr_world (W1 := W4) hW4 ?_
  have HB4 := Lib.hid (HB3.out.trans (hb4.mono HB3.out.size))
  have HR4 := Lib.hid ((hb4.block _ (Array.getElem?_eq_some_iff.1 HR3.out).1).trans HR3.out)
  have HK4 := Lib.hid ((hb4.block _ (Array.getElem?_eq_some_iff.1 HK3.out).1).trans HK3.out)
  have HNE2 : Hid (w.heap.size < w3.heap.size) := (Array.getElem?_eq_some_iff.1 HR3.out).1
  clear hW4 hb4
  have HSZ4 : Hid (w.heap.size < W4.heap.size) := (Array.getElem?_eq_some_iff.1 HR4.out).1
  have HSL : Hid (∀ wx : World, wx.heap[w3.heap.size]? = some (.cells (bcells d1).toArray 44 (0, 0)) → Src wx (some ⟨w3.heap.size, 0, none⟩) 32 32 (bcells d1) 1) := fun wx h => src_row h HL2.out.symm
  refine wp_region_any (by kernel_rfl) ?_
  refine wpAny_ready (rs := [0, 1]) (by kernel_rfl) (by simp) ?_
  refine AllReady.cons rfl (fun K hK => ?_) (AllReady.cons rfl (fun K hK => ?_) AllReady.nil)
  · refine wp_load_row _ _ rfl w1.heap.size rfl _ _ _ (.array 64 5) HK4.out (by kernel_rfl) rfl (by rw [HI64.out, HS1.out]) ?_
    refine hK _ _ ?_
    clear hK K
    refine wpAny_ready (rs := [1]) (by kernel_rfl) (by simp) ?_
    refine AllReady.cons rfl (fun K hK => ?_) AllReady.nil
    go_simp
    refine hK _ _ ?_
    clear hK K
    refine wpAny_ready (rs := [2]) (by kernel_rfl) (by simp) ?_
    refine AllReady.cons rfl (fun K hK => ?_) AllReady.nil
    go_simp
    refine (HD2.out w3.heap.size W4.drew (HSL.out W4.drew HD4.out)).mono ?_
    rintro e wa ⟨va, rfl, howa, hba0⟩
    have hba : Below W4.heap.size W4 wa := (Below.refl W4.heap.size W4).drew.trans hba0
    clear hba0
    refine hK _ _ ?_
    clear hK K
    refine wpAny_ready (rs := [3]) (by kernel_rfl) (by simp) ?_
    refine AllReady.cons rfl (fun K hK => ?_) AllReady.nil
    go_simp
    refine (HE2.out _ _ _ howa).mono ?_
    rintro e wb ⟨rfl, hbb⟩
    have hbc : Below W4.heap.size W4 wb := hba.trans (hbb.mono hba.size)
    have hrb := (hbc.block _ HSZ4.out).trans HR4.out
    refine hK _ _ ?_
    clear hK K
    refine wpAny_ready (rs := [4]) (by kernel_rfl) (by simp) ?_
    refine AllReady.cons rfl (fun K hK => ?_) AllReady.nil
    refine wp_store_row _ _ _ rfl w.heap.size (bcells D).toArray rfl rfl _ _ hrb (by rw [HI32.out, HS3.out]) (by rw [HS3.out]; rfl) HO3.out ?_
    refine hK _ _ ?_
    clear hK K
    have HBF := Lib.hid (below_setRow (cs := (bcells D).toArray) (HB4.out.trans (hbc.mono HB4.out.size)) (Nat.le_refl _))
    have HRF := Lib.hid (setRow_heap _ _ _ (bcells D).toArray _ _ hrb)
    clear howa hba hbb hbc hrb
    refine wpAny_done (by kernel_rfl) ?_ _
    go_wp2_with fail
    exact bodyPost_ret (v := .agg (bcells D).toArray) (results_cell_row (P := Try.prog) (d := .array 32 5) rfl _ _ w.heap.size _ _ _ rfl HRF.out (by kernel_rfl) rfl (by rw [HI32.out, HS3.out])) rfl ⟨by rw [HD.out], HBF.out⟩
  · go_simp
    refine hK _ _ ?_
    clear hK K
    refine wpAny_ready (rs := [0]) (by kernel_rfl) (by simp) ?_
    refine AllReady.cons rfl (fun K hK => ?_) AllReady.nil
    refine wp_load_row _ _ rfl w1.heap.size rfl _ _ _ (.array 64 5) HK4.out (by kernel_rfl) rfl (by rw [HI64.out, HS1.out]) ?_
    refine hK _ _ ?_
    clear hK K
    refine wpAny_ready (rs := [2]) (by kernel_rfl) (by simp) ?_
    refine AllReady.cons rfl (fun K hK => ?_) AllReady.nil
    go_simp
    refine (HD2.out w3.heap.size W4.drew (HSL.out W4.drew HD4.out)).mono ?_
    rintro e wa ⟨va, rfl, howa, hba0⟩
    have hba : Below W4.heap.size W4 wa := (Below.refl W4.heap.size W4).drew.trans hba0
    clear hba0
    refine hK _ _ ?_
    clear hK K
    refine wpAny_ready (rs := [3]) (by kernel_rfl) (by simp) ?_
    refine AllReady.cons rfl (fun K hK => ?_) AllReady.nil
    go_simp
    refine (HE2.out _ _ _ howa).mono ?_
    rintro e wb ⟨rfl, hbb⟩
    have hbc : Below W4.heap.size W4 wb := hba.trans (hbb.mono hba.size)
    have hrb := (hbc.block _ HSZ4.out).trans HR4.out
    refine hK _ _ ?_
    clear hK K
    refine wpAny_ready (rs := [4]) (by kernel_rfl) (by simp) ?_
    refine AllReady.cons rfl (fun K hK => ?_) AllReady.nil
    refine wp_store_row _ _ _ rfl w.heap.size (bcells D).toArray rfl rfl _ _ hrb (by rw [HI32.out, HS3.out]) (by rw [HS3.out]; rfl) HO3.out ?_
    refine hK _ _ ?_
    clear hK K
    have HBF := Lib.hid (below_setRow (cs := (bcells D).toArray) (HB4.out.trans (hbc.mono HB4.out.size)) (Nat.le_refl _))
    have HRF := Lib.hid (setRow_heap _ _ _ (bcells D).toArray _ _ hrb)
    clear howa hba hbb hbc hrb
    refine wpAny_done (by kernel_rfl) ?_ _
    go_wp2_with fail
    exact bodyPost_ret (v := .agg (bcells D).toArray) (results_cell_row (P := Try.prog) (d := .array 32 5) rfl _ _ w.heap.size _ _ _ rfl HRF.out (by kernel_rfl) rfl (by rw [HI32.out, HS3.out])) rfl ⟨by rw [HD.out], HBF.out⟩
end Go.Proofs.Ytjhopgmionpkoaa
namespace Go.Proofs.Ytjhopgmionpkoaa
set_option maxRecDepth 20000
open Go.RowKit Mem

theorem ba_loop (l : List UInt8) : ∀ (n i : Nat) (r : List UInt8), l.length - i = n → ByteArray.toList.loop ⟨l.toArray⟩ i r = r.reverse ++ l.drop i
  | 0, i, r, h => by
    unfold ByteArray.toList.loop
    rw [if_neg (by show ¬ i < l.toArray.size; simp; omega), List.drop_of_length_le (by omega), List.append_nil]
  | n + 1, i, r, h => by
    unfold ByteArray.toList.loop
    have hi : i < l.length := by omega
    rw [if_pos (by show i < l.toArray.size; simpa using hi), ba_loop l n (i + 1) _ (by omega), List.drop_eq_getElem_cons hi]
    have hg : (⟨l.toArray⟩ : ByteArray).get! i = l[i]'hi := by
      show l.toArray.getD i default = _
      simp [hi]
    rw [hg]
    simp
theorem ba_toList (l : List UInt8) : (⟨l.toArray⟩ : ByteArray).toList = l := by
  unfold ByteArray.toList
  rw [ba_loop l _ 0 [] rfl]
  simp
theorem str_eq (s r : List UInt8) : ((⟨s.toArray⟩ : ByteArray).toList == (⟨r.toArray⟩ : ByteArray).toList) = (s == r) := by
  rw [ba_toList, ba_toList]
theorem row_bytes {w : World} {g : Nat} {t : TypeId} {l : List UInt8} (h : w.heap[g]? = some (.cells (bcells l).toArray t (0, 0))) : BytesAt w (some ⟨g, 0, none⟩) l := fun k hk =>
  ⟨g, 0, rfl, by rw [Nat.zero_add, cell_of_row w g k _ t (0, 0) h, List.getElem?_toArray]; exact bcells_at l k hk⟩
end Go.Proofs.Ytjhopgmionpkoaa
