/-
  A key as a block, by the package mac.
-/
import Derived.Test.YtofjfpnkdcpngaaRefSum
import Derived.Test.YtofjfpnkdcpngaaOpenR
import Derived.Laws.CopyOwn
namespace Go.Proofs.Ytofjfpnkdcpngaa
open Go.RowKit Mem

/-- what of a key goes into its block -/
def keyOf (k : List UInt8) : List UInt8 := if k.length ≤ 64 then k else sumOf k
def blockOf (k : List UInt8) : List UInt8 := keyOf k ++ List.replicate (64 - (keyOf k).length) 0
theorem keyOf_len (k : List UInt8) : (keyOf k).length ≤ 64 := by
  unfold keyOf
  split
  · assumption
  · rw [sumOf_len]; decide
theorem blockOf_len (k : List UInt8) : (blockOf k).length = 64 := by
  unfold blockOf
  have := keyOf_len k
  simp
  omega
theorem splice_block (k : List UInt8) : splice (bcells (List.replicate 64 0)) 0 (bcells k) = bcells (k ++ List.replicate (64 - k.length) 0) := by
  unfold splice
  rw [List.take_zero, List.nil_append, bcells_append, bcells_length, Nat.zero_add]
  congr 1
  unfold bcells
  rw [List.map_replicate, List.drop_replicate, List.map_replicate]
def z64 : List UInt8 := List.replicate 64 0
theorem zero64 : (bcells z64).toArray = Array.replicate 64 (.int .u8 0) := by kernel_rfl
theorem BSrc.copy {w : World} {A : Option Addr} {c : Nat} {b : List UInt8} (h : BSrc w A c b) (h0 : 0 < b.length) : ∃ ad, A = some ad ∧ ∀ j v, (bcells b)[j]? = some v → w.cell? (ad.add j) = some v := (BSrc.at_ h).src h0
set_option maxRecDepth 100000 in
set_option maxHeartbeats 4000000 in
theorem macblock (k : List UInt8) (A : Option Addr) (c : Nat) (w : World) (hA : BSrc w A c k) (hc : k.length ≤ c) (hm : k.length ≤ 140737488351232) (hm2 : c ≤ 9223372036854775807) :
    Calls Try.prog 11 #[.slice A k.length c] w fun e w' => e = .returned (.agg (bcells (blockOf k)).toArray) ∧ Below w.heap.size w w' := by
  have HA := Lib.hid hA
  have hi64 : (Try.prog.info? 25).map (·.size) = some 64 := by kernel_rfl
  have hib : (Try.prog.info? 5).map (·.size) = some 1 := by kernel_rfl
  have hi32 : (Try.prog.info? 27).map (·.size) = some 32 := by kernel_rfl
  have HI64 := Lib.hid hi64
  have HIB := Lib.hid hib
  have HI32 := Lib.hid hi32
  have HSP : Hid ((bcells (blockOf k)).toArray.size = 64) := by unfold RowKit.Hid; rw [List.size_toArray, bcells_length, blockOf_len]
  have HONE := Lib.hid (cells_one32 (blockOf k))
  clear hA hi64 hib hi32
  by_cases hk : k.length ≤ 64
  · have HBK : Hid (splice (bcells z64) 0 (bcells k) = bcells (blockOf k)) := by
      unfold RowKit.Hid blockOf keyOf
      rw [if_pos hk]
      exact splice_block k
    generalize blockOf k = bk at *
    go_enter Try.func11, Try.ntmps11
    go_upto_region 2 with fail
    obtain ⟨W0, hW0⟩ : ∃ W0, W0 = (w.alloc (.cells (Array.replicate 64 (.int .u8 0)) 25)).alloc (.cells (Array.replicate 64 (.int .u8 0)) 25) := ⟨_, rfl⟩
    have HR0 : Hid (W0.heap[w.heap.size]? = some (.cells (Array.replicate 64 (.int .u8 0)) 25 (0, 0))) := by rw [hW0]; exact heap_alloc2_old _ _ _
    have HR1 : Hid (W0.heap[w.heap.size + 1]? = some (.cells (bcells z64).toArray 25 (0, 0))) := by rw [hW0, zero64]; exact heap_alloc2_new _ _ _
    have HB0 : Hid (Below w.heap.size w W0) := by rw [hW0]; exact ((Below.refl _ _).alloc (Nat.le_refl _) _).alloc (by simp) _
    have HZ0 : Hid (W0.heap.size = w.heap.size + 2) := by rw [hW0]; simp [RowKit.Hid]
    refine wp_congr_world (W1 := W0) hW0 ?_
    clear hW0
    have HCP := Lib.hid (fun (h : 0 < k.length) => BSrc.copy (HA.out.below HB0.out (Nat.le_refl _)) h)
    go_wp2_with (refine wpList_copy_splice rfl (.tmp 11) (.tmp 12) 22 22 rfl 5 Try.underlying22 HIB.out (some ⟨w.heap.size + 1, 0, none⟩) A 64 64 k.length c rfl rfl (w.heap.size + 1) 0 (bcells z64) 25 HR1.out (bcells k) ?c1 ?c2 ?c3 (bcells_one k) (w.heap.size + 1) W0 (Below.refl _ _) (Nat.le_refl _) ?_)
    case c1 => rw [bcells_length]; exact (Nat.min_eq_left hk).symm
    case c2 => intro h; rw [bcells_length] at h; first | exact HCP.out h | exact ⟨rfl, HCP.out h⟩
    case c3 => rw [bcells_length, bcells_length, Nat.zero_add]; exact hk
    intro w4 hg4 hb4
    rw [HBK.out] at hg4
    have HR4 := Lib.hid ((hb4.block _ (Nat.lt_succ_self _)).trans HR0.out)
    have HB4 := Lib.hid (HB0.out.trans (hb4.mono (Nat.le_succ _)))
    clear hb4
    go_wp2_with (first
      | refine wpList_load_row rfl 25 (.tmp 3) rfl (w.heap.size + 1) rfl _ _ _ (.array 64 5) hg4.out (by kernel_rfl) rfl (by rw [HI64.out, HSP.out]) ?_
      | refine wpList_store_row rfl 25 (.tmp 2) (.tmp 14) rfl w.heap.size (bcells bk).toArray rfl rfl _ _ HR4.out (by rw [HI64.out, HSP.out]) (by rw [HSP.out]; rfl) HONE.out ?_)
    exact bodyPost_ret (v := .agg (bcells bk).toArray) (results_cell_row (P := Try.prog) (d := .array 64 5) rfl _ _ w.heap.size _ _ _ rfl (setRow_heap _ _ _ _ _ _ HR4.out) (by kernel_rfl) rfl (by rw [HI64.out, HSP.out])) rfl ⟨rfl, below_setRow HB4.out (Nat.le_refl _)⟩
  · have HBK : Hid (splice (bcells z64) 0 (bcells (sumOf k)) = bcells (blockOf k)) := by
      unfold RowKit.Hid blockOf keyOf
      rw [if_neg hk]
      exact splice_block (sumOf k)
    have HX := Lib.hid (fun (W : World) (h : BSrc W A c k) => shasum shastep_ok k A c W h hc hm hm2)
    have HDL := Lib.hid (sumOf_len k)
    have HDO := Lib.hid (cells_one32 (sumOf k))
    generalize blockOf k = bk at *
    generalize sumOf k = D at *
    have HDS : Hid ((bcells D).toArray.size = 32) := by unfold RowKit.Hid; rw [List.size_toArray, bcells_length, HDL.out]
    go_enter Try.func11, Try.ntmps11
    go_upto_region 2 with fail
    obtain ⟨W0, hW0⟩ : ∃ W0, W0 = (w.alloc (.cells (Array.replicate 64 (.int .u8 0)) 25)).alloc (.cells (Array.replicate 64 (.int .u8 0)) 25) := ⟨_, rfl⟩
    have HR0 : Hid (W0.heap[w.heap.size]? = some (.cells (Array.replicate 64 (.int .u8 0)) 25 (0, 0))) := by rw [hW0]; exact heap_alloc2_old _ _ _
    have HR1 : Hid (W0.heap[w.heap.size + 1]? = some (.cells (bcells z64).toArray 25 (0, 0))) := by rw [hW0, zero64]; exact heap_alloc2_new _ _ _
    have HB0 : Hid (Below w.heap.size w W0) := by rw [hW0]; exact ((Below.refl _ _).alloc (Nat.le_refl _) _).alloc (by simp) _
    have HZ0 : Hid (W0.heap.size = w.heap.size + 2) := by rw [hW0]; simp [RowKit.Hid]
    refine wp_congr_world (W1 := W0) hW0 ?_
    clear hW0
    go_wp2_with fail
    refine (HX.out _ (HA.out.below HB0.out (Nat.le_refl _))).mono ?_
    rintro e w1 ⟨rfl, hb1⟩
    have HB1 := Lib.hid hb1
    clear hb1
    go_upto_region 4 with (refine wpList_store_row rfl 27 (.tmp 4) (.tmp 9) rfl w1.heap.size (bcells D).toArray rfl rfl _ _ (heap_alloc_new _ _) (by rw [HI32.out, HDS.out]) (by rw [HDS.out]; rfl) HDO.out ?_)
    obtain ⟨W3, hW3⟩ : ∃ W3, W3 = (w1.alloc (.cells (Array.replicate 32 (.int .u8 0)) 27)).setRow w1.heap.size (bcells D).toArray := ⟨_, rfl⟩
    have HD3 : Hid (W3.heap[w1.heap.size]? = some (.cells (bcells D).toArray 27 (0, 0))) := by rw [hW3]; exact setRow_heap _ _ _ _ _ _ (heap_alloc_new _ _)
    have HB3 : Hid (Below W0.heap.size W0 W3) := by rw [hW3]; exact below_setRow (HB1.out.alloc HB1.out.size _) HB1.out.size
    refine wp_congr_world (W1 := W3) hW3 ?_
    clear hW3
    have HR2 := Lib.hid ((HB3.out.block _ (by have := HZ0.out; omega)).trans HR1.out)
    have HRR := Lib.hid ((HB3.out.block _ (by have := HZ0.out; omega)).trans HR0.out)
    have HB5 := Lib.hid (HB0.out.trans (HB3.out.mono HB0.out.size))
    have HSRC : Hid (∀ (j : Nat) (v : Value), (bcells D)[j]? = some v → W3.cell? ((⟨w1.heap.size, 0, none⟩ : Addr).add j) = some v) := fun j v hv => by
      rw [add_at, cell_of_row W3 w1.heap.size j _ _ (0, 0) HD3.out, List.getElem?_toArray]; exact hv
    go_wp2_with (refine wpList_copy_splice rfl (.tmp 11) (.tmp 12) 22 22 rfl 5 Try.underlying22 HIB.out (some ⟨w.heap.size + 1, 0, none⟩) (some ⟨w1.heap.size, 0, none⟩) 64 64 32 32 rfl rfl (w.heap.size + 1) 0 (bcells z64) 25 HR2.out (bcells D) ?d1 ?d2 ?d3 (bcells_one D) (w.heap.size + 1) W3 (Below.refl _ _) (Nat.le_refl _) ?_)
    case d1 => rw [bcells_length, HDL.out]; rfl
    case d2 => intro _; first | exact ⟨rfl, _, rfl, HSRC.out⟩ | (intro j v hv; have := HSRC.out j v hv; rwa [add_at] at this)
    case d3 => rw [bcells_length, bcells_length, HDL.out]; decide
    intro w4 hg4 hb4
    rw [HBK.out] at hg4
    have HR4 := Lib.hid ((hb4.block _ (Nat.lt_succ_self _)).trans HRR.out)
    have HB4 := Lib.hid (HB5.out.trans (hb4.mono (Nat.le_succ _)))
    clear hb4
    go_wp2_with (first
      | refine wpList_load_row rfl 25 (.tmp 3) rfl (w.heap.size + 1) rfl _ _ _ (.array 64 5) hg4.out (by kernel_rfl) rfl (by rw [HI64.out, HSP.out]) ?_
      | refine wpList_store_row rfl 25 (.tmp 2) (.tmp 14) rfl w.heap.size (bcells bk).toArray rfl rfl _ _ HR4.out (by rw [HI64.out, HSP.out]) (by rw [HSP.out]; rfl) HONE.out ?_)
    exact bodyPost_ret (v := .agg (bcells bk).toArray) (results_cell_row (P := Try.prog) (d := .array 64 5) rfl _ _ w.heap.size _ _ _ rfl (setRow_heap _ _ _ _ _ _ HR4.out) (by kernel_rfl) rfl (by rw [HI64.out, HSP.out])) rfl ⟨rfl, below_setRow HB4.out (Nat.le_refl _)⟩
end Go.Proofs.Ytofjfpnkdcpngaa
