/-
  A key as a block, by the package mac.
  The digest of a mixed block and bytes, by the package mac.
  A row of bytes as a source of bytes.
  The drawn statement of Tag of the package mac, whatever the order.
  The tag of bytes under a key, by the package mac.
  What must come of the fixed calls of the layer mac: its law's known().
-/
import Derived.Test.YtjhopgmionpkoaaSha6
import Derived.Test.YtjhopgmionpkoaaSha5
import Derived.Laws.CopyOwn
import Derived.Test.YtjhopgmionpkoaaCells
import Derived.Test.YtjhopgmionpkoaaRgn
import Derived.Lib.SmallJoins
namespace Go.Proofs.Ytjhopgmionpkoaa
set_option maxRecDepth 20000
open Go.RowKit Mem

/-- what of a key goes into its block -/
def keyOf (k : List UInt8) : List UInt8 := if k.length ≤ 64 then k else sumOf k
def blockOf (k : List UInt8) : List UInt8 := keyOf k ++ List.replicate (64 - (keyOf k).length) 0
theorem keyOf_len (k : List UInt8) : (keyOf k).length ≤ 64 := by
  unfold keyOf
  split
  · assumption
  · rw [sumOf_len]; decide
theorem blockOf_len (k : List UInt8) : (blockOf k).length = 64 := by
  unfold blockOf
  have := keyOf_len k
  simp
  omega
theorem splice_block (k : List UInt8) : splice (bcells (List.replicate 64 0)) 0 (bcells k) = bcells (k ++ List.replicate (64 - k.length) 0) := by
  unfold splice
  rw [List.take_zero, List.nil_append, bcells_append, bcells_length, Nat.zero_add]
  congr 1
  unfold bcells
  rw [List.map_replicate, List.drop_replicate, List.map_replicate]
def z64 : List UInt8 := List.replicate 64 0
theorem zero64 : (bcells z64).toArray = Array.replicate 64 (.int .u8 0) := by kernel_rfl
theorem BSrc.copy {w : World} {A : Option Addr} {c : Nat} {b : List UInt8} (h : BSrc w A c b) (h0 : 0 < b.length) : ∃ ad, A = some ad ∧ ∀ j v, (bcells b)[j]? = some v → w.cell? (ad.add j) = some v := (BSrc.at_ h).src h0
set_option maxRecDepth 100000 in
set_option maxHeartbeats 4000000 in
theorem macblock (k : List UInt8) (A : Option Addr) (c : Nat) (w : World) (hA : BSrc w A c k) (hc : k.length ≤ c) (hm : k.length ≤ 140737488351232) (hm2 : c ≤ 9223372036854775807) :
    Calls Try.prog 38 #[.slice A k.length c] w fun e w' => e = .returned (.agg (bcells (blockOf k)).toArray) ∧ Below w.heap.size w w' := by
  have HA := Lib.hid hA
  have hi64 : (Try.prog.info? 69).map (·.size) = some 64 := by kernel_rfl
  have hib : (Try.prog.info? 5).map (·.size) = some 1 := by kernel_rfl
  have hi32 : (Try.prog.info? 44).map (·.size) = some 32 := by kernel_rfl
  have HI64 := Lib.hid hi64
  have HIB := Lib.hid hib
  have HI32 := Lib.hid hi32
  have HSP : Hid ((bcells (blockOf k)).toArray.size = 64) := by unfold RowKit.Hid; rw [List.size_toArray, bcells_length, blockOf_len]
  have HONE := Lib.hid (cells_one32 (blockOf k))
  clear hA hi64 hib hi32
  by_cases hk : k.length ≤ 64
  · have HBK : Hid (splice (bcells z64) 0 (bcells k) = bcells (blockOf k)) := by
      unfold RowKit.Hid blockOf keyOf
      rw [if_pos hk]
      exact splice_block k
    generalize blockOf k = bk at *
    go_enter Try.func38, Try.ntmps38
    go_upto_region 2 with fail
    obtain ⟨W0, hW0⟩ : ∃ W0, W0 = (w.alloc (.cells (Array.replicate 64 (.int .u8 0)) 69)).alloc (.cells (Array.replicate 64 (.int .u8 0)) 69) := ⟨_, rfl⟩
    have HR0 : Hid (W0.heap[w.heap.size]? = some (.cells (Array.replicate 64 (.int .u8 0)) 69 (0, 0))) := by rw [hW0]; exact heap_alloc2_old _ _ _
    have HR1 : Hid (W0.heap[w.heap.size + 1]? = some (.cells (bcells z64).toArray 69 (0, 0))) := by rw [hW0, zero64]; exact heap_alloc2_new _ _ _
    have HB0 : Hid (Below w.heap.size w W0) := by rw [hW0]; exact ((Below.refl _ _).alloc (Nat.le_refl _) _).alloc (by simp) _
    have HZ0 : Hid (W0.heap.size = w.heap.size + 2) := by rw [hW0]; simp [RowKit.Hid]
    refine wp_congr_world (W1 := W0) hW0 ?_
    clear hW0
    have HCP := Lib.hid (fun (h : 0 < k.length) => BSrc.copy (HA.out.below HB0.out (Nat.le_refl _)) h)
    go_wp2_with (refine wpList_copy_splice rfl (.tmp 11) (.tmp 12) 31 31 rfl 5 Try.underlying31 HIB.out (some ⟨w.heap.size + 1, 0, none⟩) A 64 64 k.length c rfl rfl (w.heap.size + 1) 0 (bcells z64) 69 HR1.out (bcells k) ?c1 ?c2 ?c3 (bcells_one k) (w.heap.size + 1) W0 (Below.refl _ _) (Nat.le_refl _) ?_)
    case c1 => rw [bcells_length]; exact (Nat.min_eq_left hk).symm
    case c2 => intro h; rw [bcells_length] at h; first | exact HCP.out h | exact ⟨rfl, HCP.out h⟩
    case c3 => rw [bcells_length, bcells_length, Nat.zero_add]; exact hk
    intro w4 hg4 hb4
    rw [HBK.out] at hg4
    have HR4 := Lib.hid ((hb4.block _ (Nat.lt_succ_self _)).trans HR0.out)
    have HB4 := Lib.hid (HB0.out.trans (hb4.mono (Nat.le_succ _)))
    clear hb4
    go_wp2_with (first
      | refine wpList_load_row rfl 69 (.tmp 3) rfl (w.heap.size + 1) rfl _ _ _ (.array 64 5) hg4.out (by kernel_rfl) rfl (by rw [HI64.out, HSP.out]) ?_
      | refine wpList_store_row rfl 69 (.tmp 2) (.tmp 14) rfl w.heap.size (bcells bk).toArray rfl rfl _ _ HR4.out (by rw [HI64.out, HSP.out]) (by rw [HSP.out]; rfl) HONE.out ?_)
    exact bodyPost_ret (v := .agg (bcells bk).toArray) (results_cell_row (P := Try.prog) (d := .array 64 5) rfl _ _ w.heap.size _ _ _ rfl (setRow_heap _ _ _ _ _ _ HR4.out) (by kernel_rfl) rfl (by rw [HI64.out, HSP.out])) rfl ⟨rfl, below_setRow HB4.out (Nat.le_refl _)⟩
  · have HBK : Hid (splice (bcells z64) 0 (bcells (sumOf k)) = bcells (blockOf k)) := by
      unfold RowKit.Hid blockOf keyOf
      rw [if_neg hk]
      exact splice_block (sumOf k)
    have HX := Lib.hid (fun (W : World) (h : BSrc W A c k) => shasum shastep_ok k A c W h hc hm hm2)
    have HDL := Lib.hid (sumOf_len k)
    have HDO := Lib.hid (cells_one32 (sumOf k))
    generalize blockOf k = bk at *
    generalize sumOf k = D at *
    have HDS : Hid ((bcells D).toArray.size = 32) := by unfold RowKit.Hid; rw [List.size_toArray, bcells_length, HDL.out]
    go_enter Try.func38, Try.ntmps38
    go_upto_region 2 with fail
    obtain ⟨W0, hW0⟩ : ∃ W0, W0 = (w.alloc (.cells (Array.replicate 64 (.int .u8 0)) 69)).alloc (.cells (Array.replicate 64 (.int .u8 0)) 69) := ⟨_, rfl⟩
    have HR0 : Hid (W0.heap[w.heap.size]? = some (.cells (Array.replicate 64 (.int .u8 0)) 69 (0, 0))) := by rw [hW0]; exact heap_alloc2_old _ _ _
    have HR1 : Hid (W0.heap[w.heap.size + 1]? = some (.cells (bcells z64).toArray 69 (0, 0))) := by rw [hW0, zero64]; exact heap_alloc2_new _ _ _
    have HB0 : Hid (Below w.heap.size w W0) := by rw [hW0]; exact ((Below.refl _ _).alloc (Nat.le_refl _) _).alloc (by simp) _
    have HZ0 : Hid (W0.heap.size = w.heap.size + 2) := by rw [hW0]; simp [RowKit.Hid]
    refine wp_congr_world (W1 := W0) hW0 ?_
    clear hW0
    go_wp2_with fail
    refine (HX.out _ (HA.out.below HB0.out (Nat.le_refl _))).mono ?_
    rintro e w1 ⟨rfl, hb1⟩
    have HB1 := Lib.hid hb1
    clear hb1
    go_upto_region 4 with (refine wpList_store_row rfl 44 (.tmp 4) (.tmp 9) rfl w1.heap.size (bcells D).toArray rfl rfl _ _ (heap_alloc_new _ _) (by rw [HI32.out, HDS.out]) (by rw [HDS.out]; rfl) HDO.out ?_)
    obtain ⟨W3, hW3⟩ : ∃ W3, W3 = (w1.alloc (.cells (Array.replicate 32 (.int .u8 0)) 44)).setRow w1.heap.size (bcells D).toArray := ⟨_, rfl⟩
    have HD3 : Hid (W3.heap[w1.heap.size]? = some (.cells (bcells D).toArray 44 (0, 0))) := by rw [hW3]; exact setRow_heap _ _ _ _ _ _ (heap_alloc_new _ _)
    have HB3 : Hid (Below W0.heap.size W0 W3) := by rw [hW3]; exact below_setRow (HB1.out.alloc HB1.out.size _) HB1.out.size
    refine wp_congr_world (W1 := W3) hW3 ?_
    clear hW3
    have HR2 := Lib.hid ((HB3.out.block _ (by have := HZ0.out; omega)).trans HR1.out)
    have HRR := Lib.hid ((HB3.out.block _ (by have := HZ0.out; omega)).trans HR0.out)
    have HB5 := Lib.hid (HB0.out.trans (HB3.out.mono HB0.out.size))
    have HSRC : Hid (∀ (j : Nat) (v : Value), (bcells D)[j]? = some v → W3.cell? ((⟨w1.heap.size, 0, none⟩ : Addr).add j) = some v) := fun j v hv => by
      rw [add_at, cell_of_row W3 w1.heap.size j _ _ (0, 0) HD3.out, List.getElem?_toArray]; exact hv
    go_wp2_with (refine wpList_copy_splice rfl (.tmp 11) (.tmp 12) 31 31 rfl 5 Try.underlying31 HIB.out (some ⟨w.heap.size + 1, 0, none⟩) (some ⟨w1.heap.size, 0, none⟩) 64 64 32 32 rfl rfl (w.heap.size + 1) 0 (bcells z64) 69 HR2.out (bcells D) ?d1 ?d2 ?d3 (bcells_one D) (w.heap.size + 1) W3 (Below.refl _ _) (Nat.le_refl _) ?_)
    case d1 => rw [bcells_length, HDL.out]; rfl
    case d2 => intro _; first | exact ⟨rfl, _, rfl, HSRC.out⟩ | (intro j v hv; have := HSRC.out j v hv; rwa [add_at] at this)
    case d3 => rw [bcells_length, bcells_length, HDL.out]; decide
    intro w4 hg4 hb4
    rw [HBK.out] at hg4
    have HR4 := Lib.hid ((hb4.block _ (Nat.lt_succ_self _)).trans HRR.out)
    have HB4 := Lib.hid (HB5.out.trans (hb4.mono (Nat.le_succ _)))
    clear hb4
    go_wp2_with (first
      | refine wpList_load_row rfl 69 (.tmp 3) rfl (w.heap.size + 1) rfl _ _ _ (.array 64 5) hg4.out (by kernel_rfl) rfl (by rw [HI64.out, HSP.out]) ?_
      | refine wpList_store_row rfl 69 (.tmp 2) (.tmp 14) rfl w.heap.size (bcells bk).toArray rfl rfl _ _ HR4.out (by rw [HI64.out, HSP.out]) (by rw [HSP.out]; rfl) HONE.out ?_)
    exact bodyPost_ret (v := .agg (bcells bk).toArray) (results_cell_row (P := Try.prog) (d := .array 64 5) rfl _ _ w.heap.size _ _ _ rfl (setRow_heap _ _ _ _ _ _ HR4.out) (by kernel_rfl) rfl (by rw [HI64.out, HSP.out])) rfl ⟨rfl, below_setRow HB4.out (Nat.le_refl _)⟩
end Go.Proofs.Ytjhopgmionpkoaa
namespace Go.Proofs.Ytjhopgmionpkoaa
set_option maxRecDepth 20000
open Go.RowKit Mem

def mixB (x : UInt8) (l : List UInt8) : List UInt8 := l.map (· ^^^ x)
theorem mixB_len (x : UInt8) (l : List UInt8) : (mixB x l).length = l.length := List.length_map ..
theorem b_xor (c x : UInt8) : bits .xor .u8 (c.toNat : Int) (x.toNat : Int) = ((c ^^^ x).toNat : Int) := by
  rw [u8_xor_nat _ _ c.toNat_lt x.toNat_lt, UInt8.toNat_xor]
theorem run_index_64 (w : World) (l : List UInt8) (k : Nat) (v : Value) (hk : k < 64) (hx : (bcells l).toArray[k]? = some v) :
    (Instr.index 69 (.agg (bcells l).toArray) (.int .i64 (k : Int))).run Try.prog w = .ok v w := by
  obtain ⟨i0, hi, hi0, hi1, hi2⟩ := info_parts infoByte
  have h : Try.prog.underlying 69 = some (.array 64 5) := by kernel_rfl
  have hk' : (0 : Int) ≤ (k : Int) ∧ (k : Int) < ((64 : Nat) : Int) := by omega
  simp [Instr.index, run_underlying h, asIntOf, hk', go_sem]
  rw [if_pos hk]
  rw [List.getElem?_toArray] at hx
  rw [hx]
  rfl
def mixC (m : List UInt8) (Z : List Value) (k : Nat) : Array Value := (bcells (m.take k) ++ Z.drop k).toArray
theorem mixC_zero (m : List UInt8) (Z : List Value) : mixC m Z 0 = Z.toArray := by simp [mixC, bcells]
theorem mixC_size (m : List UInt8) (Z : List Value) (k : Nat) (h : k ≤ m.length) (hz : m.length ≤ Z.length) : (mixC m Z k).size = Z.length := by
  simp [mixC, bcells]
  omega
theorem mixC_step (m : List UInt8) (Z : List Value) (k : Nat) (h : k < m.length) (hz : m.length ≤ Z.length) : (mixC m Z k).setIfInBounds k (.int .u8 (((m[k]'h).toNat : Nat) : Int)) = mixC m Z (k + 1) := by
  unfold mixC
  rw [List.setIfInBounds_toArray]
  congr 1
  have hl : (bcells (m.take k)).length = k := by rw [bcells_length, List.length_take]; omega
  rw [List.set_append_right _ _ (by omega), hl, Nat.sub_self, List.take_succ_eq_append_getElem h, bcells_append, List.append_assoc]
  congr 1
  rw [← List.getElem_cons_drop (h := by omega)]
  rfl
theorem heap_old3 (w : World) (a b c : Obj) : (((w.alloc a).alloc b).alloc c).heap[w.heap.size]? = some a := by
  rw [heap_alloc_old _ _ (by simp; omega), heap_alloc2_old]
set_option maxRecDepth 100000 in
set_option maxHeartbeats 4000000 in
theorem macdigest (blk : List UInt8) (hblk : blk.length = 64) (x : UInt8) (n : Int) (hn : n = (x.toNat : Int)) (b : List UInt8) (A : Option Addr) (c : Nat) (w : World) (hA : BSrc w A c b) (hm : b.length ≤ 140737488351232 - 200) :
    Calls Try.prog 39 #[.agg (bcells blk).toArray, .int .u8 n, .slice A b.length c] w fun e w' => e = .returned (.agg (bcells (sumOf (mixB x blk ++ b))).toArray) ∧ Below w.heap.size w w' := by
  subst hn
  obtain ⟨i0, hi, hi0, hi1, hi2⟩ := info_parts infoByte
  obtain ⟨Z, hZl, hmk0⟩ := make_bytes 64 b.length (by omega)
  have hmk : ∀ wx : World, (Instr.makeSlice 31 (.int .i64 64) (.int .i64 (64 + (b.length : Int)))).run Try.prog wx = .ok (.slice (some ⟨wx.heap.size, 0, none⟩) 64 (64 + b.length)) (wx.alloc (.cells Z.toArray 5)) := hmk0
  have HA := Lib.hid hA
  have HBL := Lib.hid hblk
  have HZL := Lib.hid hZl
  have HML : Hid ((mixB x blk).length = 64) := by unfold RowKit.Hid; rw [mixB_len, hblk]
  have hi64 : (Try.prog.info? 69).map (·.size) = some 64 := by kernel_rfl
  have hib : (Try.prog.info? 5).map (·.size) = some 1 := by kernel_rfl
  have hi32 : (Try.prog.info? 44).map (·.size) = some 32 := by kernel_rfl
  have HI64 := Lib.hid hi64
  have HIB := Lib.hid hib
  have HI32 := Lib.hid hi32
  have HBS : Hid ((bcells blk).toArray.size = 64) := by unfold RowKit.Hid; rw [List.size_toArray, bcells_length, hblk]
  have HX := Lib.hid (fun (A : Option Addr) (c : Nat) (W : World) (h : BSrc W A c (mixB x blk ++ b)) (h1 : (mixB x blk ++ b).length ≤ c) (h2 : c ≤ 9223372036854775807) => shasum shastep_ok (mixB x blk ++ b) A c W h h1 (by rw [List.length_append, mixB_len, hblk]; omega) h2)
  have HXL : Hid ((mixB x blk ++ b).length = 64 + b.length) := by unfold RowKit.Hid; rw [List.length_append, mixB_len, hblk]
  have HSL := Lib.hid (sumOf_len (mixB x blk ++ b))
  have HGET : Hid (∀ k (h : k < 64), ∃ u : UInt8, (bcells blk).toArray[k]? = some (.int .u8 (u.toNat : Int)) ∧ (mixC (mixB x blk) Z k).setIfInBounds k (.int .u8 ((u ^^^ x).toNat : Int)) = mixC (mixB x blk) Z (k + 1)) := fun k h => by
    have hk : k < blk.length := by omega
    refine ⟨blk[k]'hk, by rw [List.getElem?_toArray]; exact bcells_at blk k hk, ?_⟩
    have := mixC_step (mixB x blk) Z k (by rw [mixB_len]; exact hk) (by rw [mixB_len]; omega)
    rw [← this]
    congr 4
    simp [mixB]
  have HCS : Hid (∀ k, k ≤ 64 → (mixC (mixB x blk) Z k).size = 64 + b.length) := fun k hk => by rw [mixC_size _ _ _ (by rw [mixB_len]; omega) (by rw [mixB_len]; omega), hZl]
  have HC0 := Lib.hid (mixC_zero (mixB x blk) Z)
  have HCL : Hid ((mixC (mixB x blk) Z 64).toList.take 64 = bcells (mixB x blk)) := by
    unfold RowKit.Hid mixC
    have h1 : (bcells (mixB x blk)).length = 64 := by rw [bcells_length, mixB_len, hblk]
    rw [List.take_of_length_le (l := mixB x blk) (by rw [mixB_len]; omega)]
    show List.take 64 (bcells (mixB x blk) ++ Z.drop 64) = _
    rw [← h1, List.take_left]
  clear hA hblk hZl hmk0 hi64 hib hi32
  generalize mixC (mixB x blk) Z = mc at *
  go_enter Try.func39, Try.ntmps39
  go_wp2_with (refine wpList_load_row rfl 69 (.tmp 3) rfl w.heap.size rfl _ _ _ (.array 64 5) (heap_old3 w _ _ _) (by kernel_rfl) rfl (by rw [HI64.out, HBS.out]) ?_)
  have HR1 : Hid ((((w.alloc (Obj.cells (bcells blk).toArray 69)).alloc (Obj.cells (Array.replicate 32 (.int .u8 0)) 44)).alloc (Obj.cells Z.toArray 5)).heap[w.heap.size + 1]? = some (.cells (Array.replicate 32 (.int .u8 0)) 44 (0, 0))) := by
    unfold RowKit.Hid
    rw [heap_alloc_old _ _ (by simp), heap_alloc2_new]
  have HR2 : Hid ((((w.alloc (Obj.cells (bcells blk).toArray 69)).alloc (Obj.cells (Array.replicate 32 (.int .u8 0)) 44)).alloc (Obj.cells Z.toArray 5)).heap[w.heap.size + 1 + 1]? = some (.cells (mc 0) 5 (0, 0))) := by
    unfold RowKit.Hid
    rw [HC0.out]
    have := heap_alloc_new ((w.alloc (Obj.cells (bcells blk).toArray 69)).alloc (Obj.cells (Array.replicate 32 (.int .u8 0)) 44)) (Obj.cells Z.toArray 5)
    simpa using this
  have HB1 : Hid (Below w.heap.size w (((w.alloc (Obj.cells (bcells blk).toArray 69)).alloc (Obj.cells (Array.replicate 32 (.int .u8 0)) 44)).alloc (Obj.cells Z.toArray 5))) := (((Below.refl _ _).alloc (Nat.le_refl _) _).alloc (by simp) _).alloc (by simp; omega) _
  go_loopw [15] (fun i wr => ∃ k : Nat, k ≤ 64 ∧ i = .int .i64 k ∧ Hid (wr.heap[w.heap.size + 1 + 1]? = some (.cells (mc k) 5 (0, 0))) ∧ Hid (wr.heap[w.heap.size + 1]? = some (.cells (Array.replicate 32 (.int .u8 0)) 44 (0, 0))) ∧ Hid (Below w.heap.size w wr)) (fun i _ => 64 - (intOf i).toNat)
  case atStart => exact ⟨0, by omega, rfl, HR2, HR1, HB1⟩
  case round =>
    obtain ⟨k, hk, rfl, h7, h6, hB⟩ := hrel
    by_cases hlt : k < 64
    · as_aux_lemma =>
        obtain ⟨u, hu, hst⟩ := HGET.out k hlt
        have ix := run_index_64 wr blk k _ hlt hu
        have HST := Lib.hid hst
        have HXO := Lib.hid (b_xor u x)
        have HSZ := Lib.hid (HCS.out k hk)
        have r0 : (0 : Int) ≤ k := by omega
        have r1 : (k : Int) < 64 := by omega
        clear hu hst
        go_wp2_with (refine wpList_store1 rfl 5 (.tmp 24) (.tmp 23) rfl (w.heap.size + 1 + 1) k .u8 _ rfl rfl h7.out (by rw [HSZ.out]; omega) HIB.out ?_; intro y1 r1 m1; have R1 := Lib.hid r1; have G1 := Lib.hid m1; clear r1 m1)
        have E1 : Hid (y1.heap[w.heap.size + 1 + 1]? = some (.cells (mc (k + 1)) 5 (0, 0))) := by unfold RowKit.Hid; rw [← HST.out, ← HXO.out]; exact R1.out
        have E2 : Hid (y1.heap[w.heap.size + 1]? = some (.cells (Array.replicate 32 (.int .u8 0)) 44 (0, 0))) := other_by G1.out (by omega) h6.out
        have E3 : Hid (Below w.heap.size w y1) := below_by hB.out G1.out hB.out.size (by omega)
        go_roundw
        case rel => exact ⟨k + 1, by omega, by go_num, E1, E2, E3⟩
        case measure => simp [intOf]; omega
    · obtain rfl : k = 64 := by omega
      have HO : Hid (wr.ownsRow (w.heap.size + 1 + 1) 5 1 (.slice (some ⟨w.heap.size + 1 + 1, 0, none⟩) 64 (64 + b.length)) 64 (bcells (mixB x blk))) :=
        ⟨by rw [bcells_length, HML.out], .inr ⟨w.heap.size + 1 + 1, 64 + b.length, mc 64, rfl, Nat.le_refl _, h7.out, by omega, by unfold maxLen; omega, by rw [HCS.out 64 (Nat.le_refl _), Nat.mul_one], HCL.out⟩⟩
      have HZW : Hid (w.heap.size + 1 + 1 ≤ wr.heap.size) := by have := (Array.getElem?_eq_some_iff.1 h7.out).1; unfold RowKit.Hid; omega
      clear h7 HGET HCS HCL HC0
      go_wp2_with (at_builtin; refine wpList_app_any rfl (.tmp 26) (.tmp 27) 31 rfl (w.heap.size + 1 + 1) 5 i0 (.int .u8 0) 1 1 Try.underlying31 hi hi0 hi1 hi2 rfl (by decide) (.slice (some ⟨w.heap.size + 1 + 1, 0, none⟩) 64 (64 + b.length)) 64 (bcells (mixB x blk)) rfl HO.out A b.length c (bcells b) rfl (HA.out.below hB.out (Nat.le_refl _)) (bcells_one b) ?d3 ?d4 HZW.out ?_)
      case d3 => unfold maxLen; omega
      case d4 => omega
      intro v2 w2 hown2 hg2
      have HB2 : Hid (Below (w.heap.size + 1 + 1) wr w2) := below_of_grown hg2 HZW.out (fun g hg => by simp [Value.ownBlock] at hg; omega)
      have HR6 := Lib.hid ((HB2.out.block _ (Nat.lt_succ_self _)).trans h6.out)
      have ho : w2.ownsRow (w.heap.size + 1 + 1) 5 1 v2 (mixB x blk ++ b).length (bcells (mixB x blk ++ b)) := by
        rw [HXL.out, bcells_append]; exact hown2
      obtain ⟨A2, c2, rfl⟩ := own_slice ho
      have hcap : (mixB x blk ++ b).length ≤ c2 ∧ c2 ≤ 9223372036854775807 := by
        rcases ho.2 with ⟨hv, h0⟩ | ⟨g, cap, cur, hv, _, _, hn', hc', _⟩
        · injection hv with _ h1 h2; omega
        · injection hv with _ h1 h2; unfold maxLen at hc'; omega
      have HSRC := Lib.hid (Src.of_own ho)
      have HCAP := Lib.hid hcap
      clear hown2 hg2 ho hcap
      have HB3 := Lib.hid (hB.out.trans (HB2.out.mono (by omega)))
      have HFIN : Hid (∃ D, D = sumOf (mixB x blk ++ b)) := ⟨_, rfl⟩
      obtain ⟨D, hD⟩ := HFIN.out
      rw [← hD] at HX HSL
      have HD := Lib.hid hD
      generalize hmm : mixB x blk ++ b = mm at *
      have HMM := Lib.hid hmm
      clear hmm
      have HDS : Hid ((bcells D).toArray.size = 32) := by unfold RowKit.Hid; rw [List.size_toArray, bcells_length, HSL.out]
      have HDO := Lib.hid (cells_one32 D)
      clear hD HFIN
      go_wp2_with fail
      refine (HX.out A2 c2 _ HSRC.out HCAP.out.1 HCAP.out.2).mono ?_
      rintro e w3 ⟨rfl, hb3⟩
      have HR7 := Lib.hid ((hb3.block _ (Array.getElem?_eq_some_iff.1 HR6.out).1).trans HR6.out)
      have HB4 := Lib.hid (HB3.out.trans (hb3.mono HB3.out.size))
      clear hb3
      go_wp2_with (refine wpList_store_row rfl 44 (.tmp 6) (.tmp 29) rfl (w.heap.size + 1) (bcells D).toArray rfl rfl _ _ HR7.out (by rw [HI32.out, HDS.out]) (by rw [HDS.out]; rfl) HDO.out ?_)
      exact bodyPost_ret (v := .agg (bcells D).toArray) (results_cell_row (P := Try.prog) (d := .array 32 5) rfl _ _ (w.heap.size + 1) _ _ _ rfl (setRow_heap _ _ _ _ _ _ HR7.out) (by kernel_rfl) rfl (by rw [HI32.out, HDS.out])) rfl ⟨by rw [HD.out, HMM.out], below_setRow HB4.out (Nat.le_succ _)⟩
end Go.Proofs.Ytjhopgmionpkoaa
namespace Go.Proofs.Ytjhopgmionpkoaa
set_option maxRecDepth 20000
open Go.RowKit Mem

theorem src_row {w : World} {g n : Nat} {l : List UInt8} {t : TypeId} (h : w.heap[g]? = some (.cells (bcells l).toArray t (0, 0))) (hn : n = l.length) : Src w (some ⟨g, 0, none⟩) n n (bcells l) 1 :=
  ⟨by rw [bcells_length, hn, Nat.mul_one], fun h => (by cases h), fun ad had j u hu => by
    injection had with had
    subst had
    rw [add_at, cell_of_row w g j _ t (0, 0) h]
    simpa using hu⟩
end Go.Proofs.Ytjhopgmionpkoaa
namespace Go.Proofs.Ytjhopgmionpkoaa
set_option maxRecDepth 20000
open Go.RowKit Mem

set_option linter.unusedVariables false
noncomputable def mtagOps : Array Oper := findOps 3 ((Try.f22).body.getD (.exit 0))
def mtagSlots : List (Nat × Nat) := [(0, 12), (1, 13), (2, 14)]
def mtagVal (blk D : List UInt8) (g6 : Nat) : Nat → Value
  | 0 => .agg (bcells blk).toArray
  | 1 => .slice (some ⟨g6, 0, none⟩) 32 32
  | _ => .agg (bcells D).toArray
theorem mtagRegion {Q : Exit → Act → World → Prop} (a0 : Act) (W0 : World) (hs : 14 < a0.tmps.size) (blk d1 D : List UInt8) (hb64 : blk.length = 64) (hd32 : d1.length = 32) (hD : D.length = 32) (g g5 g6 : Nat) (hne5 : g5 ≠ g) (hne6 : g6 ≠ g) (h5 : W0.heap[g5]? = some (.cells (bcells blk).toArray 69 (0, 0))) (h6 : W0.heap[g6]? = some (.cells (bcells d1).toArray 44 (0, 0))) (hdig : ∀ W, Src W (some ⟨g6, 0, none⟩) 32 32 (bcells d1) 1 → Calls Try.prog 39 #[.agg (bcells blk).toArray, .int .u8 92, .slice (some ⟨g6, 0, none⟩) 32 32] W fun e w' => e = .returned (.agg (bcells D).toArray) ∧ Below W.heap.size W w') (hrow : ∃ Z : Array Value, W0.heap[g]? = some (.cells Z 44 (0, 0)) ∧ Z.size = 32)
    (e4 : a0.eval (.tmp 4) = .pointer (some ⟨g, 0, none⟩))
    (e5 : a0.eval (.tmp 5) = .pointer (some ⟨g5, 0, none⟩))
    (e6 : a0.eval (.tmp 6) = .pointer (some ⟨g6, 0, none⟩))
    (hQ : ∀ w, W0.grownBy w (some g) → w.heap[g]? = some (.cells (bcells D).toArray 44 (0, 0)) → Q .normal (mtagSlots.foldl (fun x p => x.put (some p.2) ((mtagVal blk D g6) p.1)) a0) w) :
    wpAny Try.prog .any mtagOps Q 4 (Array.replicate 4 false) a0 W0.drew := by
  have ok : slotsFix mtagSlots a0.tmps.size = true := by
    have : ∀ z, 14 < z → slotsFix mtagSlots z = true := by
      intro z hz
      simp [slotsFix, mtagSlots]
      omega
    exact this _ hs
  have hi64 : (Try.prog.info? 69).map (·.size) = some 64 := by kernel_rfl
  have hi32 : (Try.prog.info? 44).map (·.size) = some 32 := by kernel_rfl
  have hDs : (bcells D).toArray.size = 32 := by rw [List.size_toArray, bcells_length, hD]
  refine region_put (by kernel_rfl) W0 a0 mtagSlots (mtagVal blk D g6) g 3 2 14 4 44 44 (bcells D).toArray ok (by kernel_rfl) (by kernel_rfl) 4 (by kernel_rfl) (by decide) ⟨_, rfl, rfl, rfl, rfl⟩ (by decide) rfl e4 rfl (by rw [hi32, hDs]) (cells_one32 D) (by rw [hDs]; exact hrow) (by kernel_rfl) ?_ hQ
  intro i L a w h hi hn2 hneed
  rcases (show i = 0 ∨ i = 1 ∨ i = 2 by omega) with rfl | rfl | rfl
  · exact fix_value (i := 0) (d := 12) rfl (wanted_none rfl) rfl (by decide) (x_load_row (d := .array 64 5) rfl ((h.old rfl).trans e5) (other_by h.grown hne5 h5) (by kernel_rfl) rfl hi64 (by rw [bcells_length, hb64]))
  · exact fix_value (i := 1) (d := 13) rfl (wanted_none rfl) rfl (by decide) (x_slice_row rfl ((h.old rfl).trans e6) (by kernel_rfl))
  · refine fix_call (i := 2) (d := 14) 39 Try.f39 #[.tmp 12, .const (.int .u8 92), .tmp 13] _ #[.agg (bcells blk).toArray, .int .u8 92, .slice (some ⟨g6, 0, none⟩) 32 32] rfl (wanted_none rfl) rfl (by decide) rfl (by simp [(h.get 0 12 (by decide) (hneed 0 (by kernel_rfl))), (h.get 1 13 (by decide) (hneed 1 (by kernel_rfl))), mtagVal, Act.eval_const_]) Try.func39 (by kernel_rfl) (by kernel_rfl) ?_
    exact hdig w (src_row (other_by h.grown hne6 h6) hd32.symm)
end Go.Proofs.Ytjhopgmionpkoaa
namespace Go.Proofs.Ytjhopgmionpkoaa
set_option maxRecDepth 20000
open Go.RowKit Mem

def innerOf (k b : List UInt8) : List UInt8 := sumOf (mixB 54 (blockOf k) ++ b)
def tagOf (k b : List UInt8) : List UInt8 := sumOf (mixB 92 (blockOf k) ++ innerOf k b)
theorem tagOf_len (k b : List UInt8) : (tagOf k b).length = 32 := sumOf_len _
theorem innerOf_len (k b : List UInt8) : (innerOf k b).length = 32 := sumOf_len _
set_option maxRecDepth 100000 in
set_option maxHeartbeats 4000000 in
theorem mactag (k b : List UInt8) (A A' : Option Addr) (c c' : Nat) (w : World) (hA : BSrc w A c k) (hc : k.length ≤ c) (hm : k.length ≤ 140737488351232) (hm2 : c ≤ 9223372036854775807) (hA' : BSrc w A' c' b) (hb : b.length ≤ 140737488351232 - 200) :
    Calls Try.prog 22 #[.slice A k.length c, .slice A' b.length c'] w fun e w' => e = .returned (.agg (bcells (tagOf k b)).toArray) ∧ Below w.heap.size w w' := by
  have HA := Lib.hid hA
  have HA' := Lib.hid hA'
  have hi64 : (Try.prog.info? 69).map (·.size) = some 64 := by kernel_rfl
  have hi32 : (Try.prog.info? 44).map (·.size) = some 32 := by kernel_rfl
  have HI64 := Lib.hid hi64
  have HI32 := Lib.hid hi32
  have HBK := Lib.hid (fun (W : World) (h : BSrc W A c k) => macblock k A c W h hc hm hm2)
  have HD1 := Lib.hid (fun (W : World) (h : BSrc W A' c' b) => macdigest (blockOf k) (blockOf_len k) 54 54 rfl b A' c' W h hb)
  have HD2 := Lib.hid (fun (g : Nat) (W : World) (h : Src W (some ⟨g, 0, none⟩) 32 32 (bcells (innerOf k b)) 1) => by
    have h' : BSrc W (some ⟨g, 0, none⟩) 32 (innerOf k b) := by have e : (innerOf k b).length = 32 := innerOf_len k b; show Src W _ (innerOf k b).length 32 _ 1; rw [e]; exact h
    have := macdigest (blockOf k) (blockOf_len k) 92 92 rfl (innerOf k b) (some ⟨g, 0, none⟩) 32 W h' (by rw [innerOf_len]; decide)
    rw [innerOf_len] at this
    exact this)
  have HL1 := Lib.hid (blockOf_len k)
  have HL2 := Lib.hid (innerOf_len k b)
  have HL3 := Lib.hid (tagOf_len k b)
  have HT : Hid (tagOf k b = sumOf (mixB 92 (blockOf k) ++ innerOf k b)) := rfl
  have HN : Hid (innerOf k b = sumOf (mixB 54 (blockOf k) ++ b)) := rfl
  rw [← HT.out] at HD2
  rw [← HN.out] at HD1
  clear hA hA' hi64 hi32 HT HN
  have HO1 := Lib.hid (cells_one32 (blockOf k))
  have HO2 := Lib.hid (cells_one32 (innerOf k b))
  generalize blockOf k = blk at *
  generalize innerOf k b = d1 at *
  obtain ⟨D, hD⟩ : ∃ D, D = tagOf k b := ⟨_, rfl⟩
  rw [← hD] at HD2 HL3
  have HD := Lib.hid hD
  clear hD
  have HS1 : Hid ((bcells blk).toArray.size = 64) := by unfold RowKit.Hid; rw [List.size_toArray, bcells_length, HL1.out]
  have HS2 : Hid ((bcells d1).toArray.size = 32) := by unfold RowKit.Hid; rw [List.size_toArray, bcells_length, HL2.out]
  have HS3 : Hid ((bcells D).toArray.size = 32) := by unfold RowKit.Hid; rw [List.size_toArray, bcells_length, HL3.out]
  go_enter Try.func22, Try.ntmps22
  go_upto_region 1 with fail
  obtain ⟨W0, hW0⟩ : ∃ W0, W0 = w.alloc (.cells (Array.replicate 32 (.int .u8 0)) 44) := ⟨_, rfl⟩
  have HR0 : Hid (W0.heap[w.heap.size]? = some (.cells (Array.replicate 32 (.int .u8 0)) 44 (0, 0))) := by rw [hW0]; exact heap_alloc_new _ _
  have HB0 : Hid (Below w.heap.size w W0) := by rw [hW0]; exact (Below.refl _ _).alloc (Nat.le_refl _) _
  refine wp_congr_world (W1 := W0) hW0 ?_
  clear hW0
  go_wp2_with fail
  refine (HBK.out _ (HA.out.below HB0.out (Nat.le_refl _))).mono ?_
  rintro e w1 ⟨rfl, hb1⟩
  have HB1 := Lib.hid (HB0.out.trans (hb1.mono HB0.out.size))
  have HR1 := Lib.hid ((hb1.block _ (Array.getElem?_eq_some_iff.1 HR0.out).1).trans HR0.out)
  clear hb1
  go_upto_region 2 with (refine wpList_store_row rfl 69 (.tmp 5) (.tmp 8) rfl w1.heap.size (bcells blk).toArray rfl rfl _ _ (heap_alloc_new _ _) (by rw [HI64.out, HS1.out]) (by rw [HS1.out]; rfl) HO1.out ?_)
  obtain ⟨W2, hW2⟩ : ∃ W2, W2 = (w1.alloc (.cells (Array.replicate 64 (.int .u8 0)) 69)).setRow w1.heap.size (bcells blk).toArray := ⟨_, rfl⟩
  have HK2 : Hid (W2.heap[w1.heap.size]? = some (.cells (bcells blk).toArray 69 (0, 0))) := by rw [hW2]; exact setRow_heap _ _ _ _ _ _ (heap_alloc_new _ _)
  have hb2 : Below w1.heap.size w1 W2 := by rw [hW2]; exact below_setRow ((Below.refl _ _).alloc (Nat.le_refl _) _) (Nat.le_refl _)
  refine wp_congr_world (W1 := W2) hW2 ?_
  have HB2 := Lib.hid (HB1.out.trans (hb2.mono HB1.out.size))
  have HR2 := Lib.hid ((hb2.block _ (Array.getElem?_eq_some_iff.1 HR1.out).1).trans HR1.out)
  have HNE1 : Hid (w.heap.size < w1.heap.size) := (Array.getElem?_eq_some_iff.1 HR1.out).1
  clear hW2 hb2
  go_wp2_with (refine wpList_load_row rfl 69 (.tmp 5) rfl w1.heap.size rfl _ _ _ (.array 64 5) HK2.out (by kernel_rfl) rfl (by rw [HI64.out, HS1.out]) ?_)
  refine (HD1.out _ (HA'.out.below HB2.out (Nat.le_refl _))).mono ?_
  rintro e w3 ⟨rfl, hb3⟩
  have HB3 := Lib.hid (HB2.out.trans (hb3.mono HB2.out.size))
  have HR3 := Lib.hid ((hb3.block _ (Array.getElem?_eq_some_iff.1 HR2.out).1).trans HR2.out)
  have HK3 := Lib.hid ((hb3.block _ (Array.getElem?_eq_some_iff.1 HK2.out).1).trans HK2.out)
  clear hb3
  go_upto_region 3 with (refine wpList_store_row rfl 44 (.tmp 6) (.tmp 11) rfl w3.heap.size (bcells d1).toArray rfl rfl _ _ (heap_alloc_new _ _) (by rw [HI32.out, HS2.out]) (by rw [HS2.out]; rfl) HO2.out ?_)
  obtain ⟨W4, hW4⟩ : ∃ W4, W4 = (w3.alloc (.cells (Array.replicate 32 (.int .u8 0)) 44)).setRow w3.heap.size (bcells d1).toArray := ⟨_, rfl⟩
  have HD4 : Hid (W4.heap[w3.heap.size]? = some (.cells (bcells d1).toArray 44 (0, 0))) := by rw [hW4]; exact setRow_heap _ _ _ _ _ _ (heap_alloc_new _ _)
  have hb4 : Below w3.heap.size w3 W4 := by rw [hW4]; exact below_setRow ((Below.refl _ _).alloc (Nat.le_refl _) _) (Nat.le_refl _)
  refine wp_congr_world (W1 := W4) hW4 ?_
  have HB4 := Lib.hid (HB3.out.trans (hb4.mono HB3.out.size))
  have HR4 := Lib.hid ((hb4.block _ (Array.getElem?_eq_some_iff.1 HR3.out).1).trans HR3.out)
  have HK4 := Lib.hid ((hb4.block _ (Array.getElem?_eq_some_iff.1 HK3.out).1).trans HK3.out)
  have HNE2 : Hid (w.heap.size < w3.heap.size) := (Array.getElem?_eq_some_iff.1 HR3.out).1
  clear hW4 hb4
  refine wp_region_any (by kernel_rfl) ?_
  refine wpAny_ops (ops' := mtagOps) (by kernel_rfl) ?_
  refine mtagRegion _ W4 ?hs blk d1 D HL1.out HL2.out HL3.out w.heap.size w1.heap.size w3.heap.size (by have := HNE1.out; omega) (by have := HNE2.out; omega) HK4.out HD4.out (HD2.out _) ⟨_, HR4.out, by simp⟩ rfl rfl rfl ?_
  case hs => simp [Act.put]
  intro w5 hg5 hr5
  have HB5 : Hid (Below w.heap.size w w5) := HB4.out.trans (grown_below hg5 HB4.out.size)
  have HR5 := Lib.hid hr5
  clear hg5 hr5
  simp only [mtagSlots, List.foldl_cons, List.foldl_nil]
  simp only [mtagVal]
  simp only [Act.put, List.setIfInBounds_toArray, List.set_cons_zero, List.set_cons_succ]
  go_wp2_with fail
  exact bodyPost_ret (v := .agg (bcells D).toArray) (results_cell_row (P := Try.prog) (d := .array 32 5) rfl _ _ w.heap.size _ _ _ rfl HR5.out (by kernel_rfl) rfl (by rw [HI32.out, HS3.out])) rfl ⟨by rw [HD.out], HB5.out⟩
end Go.Proofs.Ytjhopgmionpkoaa
namespace Go.Proofs.Ytjhopgmionpkoaa
set_option maxRecDepth 20000
open Go.RowKit Mem

theorem macopen_short (v : Value) (n c : Nat) (A : Option Addr) (w : World) (hn : n < 32) :
    Calls Try.prog 37 #[v, .slice A n c] w fun e w' => e = .returned (.tuple #[.slice none 0 0, .int .i64 2]) ∧ w = w' := by
  go_enter Try.func37, Try.ntmps37
  go_wp2_with fail
  go_ret2
  exact ⟨rfl, rfl⟩
def kKey : List UInt8 := [107, 101, 121]
def kMsg : List UInt8 := [84, 104, 101, 32, 113, 117, 105, 99, 107, 32, 98, 114, 111, 119, 110, 32, 102, 111, 120, 32, 106, 117, 109, 112, 115, 32, 111, 118, 101, 114, 32, 116, 104, 101, 32, 108, 97, 122, 121, 32, 100, 111, 103]
def kHex : List UInt8 := [102, 55, 98, 99, 56, 51, 102, 52, 51, 48, 53, 51, 56, 52, 50, 52, 98, 49, 51, 50, 57, 56, 101, 54, 97, 97, 54, 102, 98, 49, 52, 51, 101, 102, 52, 100, 53, 57, 97, 49, 52, 57, 52, 54, 49, 55, 53, 57, 57, 55, 52, 55, 57, 100, 98, 99, 50, 100, 49, 97, 51, 99, 100, 56]
theorem k_hex : hexL (tagOf kKey kMsg) = kHex := by decide +kernel
theorem mactag_known (w : World) (A A' : Option Addr) (hA : Src w A 3 3 (bcells kKey) 1) (hA' : Src w A' 43 43 (bcells kMsg) 1) :
    Calls Try.prog 22 #[.slice A 3 3, .slice A' 43 43] w fun e w' => e = .returned (.agg (bcells (tagOf kKey kMsg)).toArray) ∧ Below w.heap.size w w' :=
  mactag kKey kMsg A A' 3 43 w hA (Nat.le_refl _) (by decide) (by decide) hA' (by decide)
end Go.Proofs.Ytjhopgmionpkoaa
