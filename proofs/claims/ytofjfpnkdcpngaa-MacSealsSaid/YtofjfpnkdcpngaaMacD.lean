/-
  The tag of bytes under a key, by the package mac.
-/
import Derived.Test.YtofjfpnkdcpngaaMacTagR
namespace Go.Proofs.Ytofjfpnkdcpngaa
open Go.RowKit Mem

def innerOf (k b : List UInt8) : List UInt8 := sumOf (mixB 54 (blockOf k) ++ b)
def tagOf (k b : List UInt8) : List UInt8 := sumOf (mixB 92 (blockOf k) ++ innerOf k b)
theorem tagOf_len (k b : List UInt8) : (tagOf k b).length = 32 := sumOf_len _
theorem innerOf_len (k b : List UInt8) : (innerOf k b).length = 32 := sumOf_len _
set_option maxRecDepth 100000 in
set_option maxHeartbeats 4000000 in
theorem mactag (k b : List UInt8) (A A' : Option Addr) (c c' : Nat) (w : World) (hA : BSrc w A c k) (hc : k.length ≤ c) (hm : k.length ≤ 140737488351232) (hm2 : c ≤ 9223372036854775807) (hA' : BSrc w A' c' b) (hb : b.length ≤ 140737488351232 - 200) :
    Calls Try.prog 13 #[.slice A k.length c, .slice A' b.length c'] w fun e w' => e = .returned (.agg (bcells (tagOf k b)).toArray) ∧ Below w.heap.size w w' := by
  have HA := Lib.hid hA
  have HA' := Lib.hid hA'
  have hi64 : (Try.prog.info? 25).map (·.size) = some 64 := by kernel_rfl
  have hi32 : (Try.prog.info? 27).map (·.size) = some 32 := by kernel_rfl
  have HI64 := Lib.hid hi64
  have HI32 := Lib.hid hi32
  have HBK := Lib.hid (fun (W : World) (h : BSrc W A c k) => macblock k A c W h hc hm hm2)
  have HD1 := Lib.hid (fun (W : World) (h : BSrc W A' c' b) => macdigest (blockOf k) (blockOf_len k) 54 54 rfl b A' c' W h hb)
  have HD2 := Lib.hid (fun (g : Nat) (W : World) (h : Src W (some ⟨g, 0, none⟩) 32 32 (bcells (innerOf k b)) 1) => by
    have h' : BSrc W (some ⟨g, 0, none⟩) 32 (innerOf k b) := by have e : (innerOf k b).length = 32 := innerOf_len k b; show Src W _ (innerOf k b).length 32 _ 1; rw [e]; exact h
    have := macdigest (blockOf k) (blockOf_len k) 92 92 rfl (innerOf k b) (some ⟨g, 0, none⟩) 32 W h' (by rw [innerOf_len]; decide)
    rw [innerOf_len] at this
    exact this)
  have HL1 := Lib.hid (blockOf_len k)
  have HL2 := Lib.hid (innerOf_len k b)
  have HL3 := Lib.hid (tagOf_len k b)
  have HT : Hid (tagOf k b = sumOf (mixB 92 (blockOf k) ++ innerOf k b)) := rfl
  have HN : Hid (innerOf k b = sumOf (mixB 54 (blockOf k) ++ b)) := rfl
  rw [← HT.out] at HD2
  rw [← HN.out] at HD1
  clear hA hA' hi64 hi32 HT HN
  have HO1 := Lib.hid (cells_one32 (blockOf k))
  have HO2 := Lib.hid (cells_one32 (innerOf k b))
  generalize blockOf k = blk at *
  generalize innerOf k b = d1 at *
  obtain ⟨D, hD⟩ : ∃ D, D = tagOf k b := ⟨_, rfl⟩
  rw [← hD] at HD2 HL3
  have HD := Lib.hid hD
  clear hD
  have HS1 : Hid ((bcells blk).toArray.size = 64) := by unfold RowKit.Hid; rw [List.size_toArray, bcells_length, HL1.out]
  have HS2 : Hid ((bcells d1).toArray.size = 32) := by unfold RowKit.Hid; rw [List.size_toArray, bcells_length, HL2.out]
  have HS3 : Hid ((bcells D).toArray.size = 32) := by unfold RowKit.Hid; rw [List.size_toArray, bcells_length, HL3.out]
  go_enter Try.func13, Try.ntmps13
  go_upto_region 1 with fail
  obtain ⟨W0, hW0⟩ : ∃ W0, W0 = w.alloc (.cells (Array.replicate 32 (.int .u8 0)) 27) := ⟨_, rfl⟩
  have HR0 : Hid (W0.heap[w.heap.size]? = some (.cells (Array.replicate 32 (.int .u8 0)) 27 (0, 0))) := by rw [hW0]; exact heap_alloc_new _ _
  have HB0 : Hid (Below w.heap.size w W0) := by rw [hW0]; exact (Below.refl _ _).alloc (Nat.le_refl _) _
  refine wp_congr_world (W1 := W0) hW0 ?_
  clear hW0
  go_wp2_with fail
  refine (HBK.out _ (HA.out.below HB0.out (Nat.le_refl _))).mono ?_
  rintro e w1 ⟨rfl, hb1⟩
  have HB1 := Lib.hid (HB0.out.trans (hb1.mono HB0.out.size))
  have HR1 := Lib.hid ((hb1.block _ (Array.getElem?_eq_some_iff.1 HR0.out).1).trans HR0.out)
  clear hb1
  go_upto_region 2 with (refine wpList_store_row rfl 25 (.tmp 5) (.tmp 8) rfl w1.heap.size (bcells blk).toArray rfl rfl _ _ (heap_alloc_new _ _) (by rw [HI64.out, HS1.out]) (by rw [HS1.out]; rfl) HO1.out ?_)
  obtain ⟨W2, hW2⟩ : ∃ W2, W2 = (w1.alloc (.cells (Array.replicate 64 (.int .u8 0)) 25)).setRow w1.heap.size (bcells blk).toArray := ⟨_, rfl⟩
  have HK2 : Hid (W2.heap[w1.heap.size]? = some (.cells (bcells blk).toArray 25 (0, 0))) := by rw [hW2]; exact setRow_heap _ _ _ _ _ _ (heap_alloc_new _ _)
  have hb2 : Below w1.heap.size w1 W2 := by rw [hW2]; exact below_setRow ((Below.refl _ _).alloc (Nat.le_refl _) _) (Nat.le_refl _)
  refine wp_congr_world (W1 := W2) hW2 ?_
  have HB2 := Lib.hid (HB1.out.trans (hb2.mono HB1.out.size))
  have HR2 := Lib.hid ((hb2.block _ (Array.getElem?_eq_some_iff.1 HR1.out).1).trans HR1.out)
  have HNE1 : Hid (w.heap.size < w1.heap.size) := (Array.getElem?_eq_some_iff.1 HR1.out).1
  clear hW2 hb2
  go_wp2_with (refine wpList_load_row rfl 25 (.tmp 5) rfl w1.heap.size rfl _ _ _ (.array 64 5) HK2.out (by kernel_rfl) rfl (by rw [HI64.out, HS1.out]) ?_)
  refine (HD1.out _ (HA'.out.below HB2.out (Nat.le_refl _))).mono ?_
  rintro e w3 ⟨rfl, hb3⟩
  have HB3 := Lib.hid (HB2.out.trans (hb3.mono HB2.out.size))
  have HR3 := Lib.hid ((hb3.block _ (Array.getElem?_eq_some_iff.1 HR2.out).1).trans HR2.out)
  have HK3 := Lib.hid ((hb3.block _ (Array.getElem?_eq_some_iff.1 HK2.out).1).trans HK2.out)
  clear hb3
  go_upto_region 3 with (refine wpList_store_row rfl 27 (.tmp 6) (.tmp 11) rfl w3.heap.size (bcells d1).toArray rfl rfl _ _ (heap_alloc_new _ _) (by rw [HI32.out, HS2.out]) (by rw [HS2.out]; rfl) HO2.out ?_)
  obtain ⟨W4, hW4⟩ : ∃ W4, W4 = (w3.alloc (.cells (Array.replicate 32 (.int .u8 0)) 27)).setRow w3.heap.size (bcells d1).toArray := ⟨_, rfl⟩
  have HD4 : Hid (W4.heap[w3.heap.size]? = some (.cells (bcells d1).toArray 27 (0, 0))) := by rw [hW4]; exact setRow_heap _ _ _ _ _ _ (heap_alloc_new _ _)
  have hb4 : Below w3.heap.size w3 W4 := by rw [hW4]; exact below_setRow ((Below.refl _ _).alloc (Nat.le_refl _) _) (Nat.le_refl _)
  refine wp_congr_world (W1 := W4) hW4 ?_
  have HB4 := Lib.hid (HB3.out.trans (hb4.mono HB3.out.size))
  have HR4 := Lib.hid ((hb4.block _ (Array.getElem?_eq_some_iff.1 HR3.out).1).trans HR3.out)
  have HK4 := Lib.hid ((hb4.block _ (Array.getElem?_eq_some_iff.1 HK3.out).1).trans HK3.out)
  have HNE2 : Hid (w.heap.size < w3.heap.size) := (Array.getElem?_eq_some_iff.1 HR3.out).1
  clear hW4 hb4
  refine wp_region_any (by kernel_rfl) ?_
  refine wpAny_ops (ops' := mtagOps) (by kernel_rfl) ?_
  refine mtagRegion _ W4 ?hs blk d1 D HL1.out HL2.out HL3.out w.heap.size w1.heap.size w3.heap.size (by have := HNE1.out; omega) (by have := HNE2.out; omega) HK4.out HD4.out (HD2.out _) ⟨_, HR4.out, by simp⟩ rfl rfl rfl ?_
  case hs => simp [Act.put]
  intro w5 hg5 hr5
  have HB5 : Hid (Below w.heap.size w w5) := HB4.out.trans (grown_below hg5 HB4.out.size)
  have HR5 := Lib.hid hr5
  clear hg5 hr5
  simp only [mtagSlots, List.foldl_cons, List.foldl_nil]
  simp only [mtagVal]
  simp only [Act.put, List.setIfInBounds_toArray, List.set_cons_zero, List.set_cons_succ]
  go_wp2_with fail
  exact bodyPost_ret (v := .agg (bcells D).toArray) (results_cell_row (P := Try.prog) (d := .array 32 5) rfl _ _ w.heap.size _ _ _ rfl HR5.out (by kernel_rfl) rfl (by rw [HI32.out, HS3.out])) rfl ⟨by rw [HD.out], HB5.out⟩
end Go.Proofs.Ytofjfpnkdcpngaa
