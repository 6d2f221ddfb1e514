/-
  The walk of the law ShaTexts: any digest in digits, and any text as a digest, are as the document says; what is written is read as it was.
-/
import Derived.Test.YtjglboejgmplgaaShaTextsR
import Derived.Test.YtjglboejgmplgaaOpenR
namespace Go.Proofs.Ytjglboejgmplgaa
open Go.RowKit Mem

set_option maxRecDepth 100000 in
set_option maxHeartbeats 4000000 in
theorem shaTexts_walk (w : World) (dl : List UInt8) (hdl : dl.length = 32) (l : List UInt8) (hl : l.length ≤ maxLen) :
    Calls Try.prog 6 #[.agg (bcells dl).toArray, .string ⟨l.toArray⟩] w fun e w' => e = .returned (.bool true) ∧ Below w.heap.size w w' := by
  have hsz : (⟨l.toArray⟩ : ByteArray).size = l.length := rfl
  have HSZ := Lib.hid hsz
  unfold maxLen at hl
  by_cases h1 : l.length ≤ 16384
  · have hi32 : (Try.prog.info? 37).map (·.size) = some 32 := by kernel_rfl
    have HI32 := Lib.hid hi32
    have HX := Lib.hid (fun W => shaunhex l W (by omega))
    have HY := Lib.hid (fun W => refunhex l W (by omega))
    have HXL := Lib.hid (unhexV_len l)
    have HH := Lib.hid (fun W => shahex dl W hdl)
    have HZ := Lib.hid (fun W => shaunhex (hexL dl) W (by rw [hexL_len, hdl]; decide))
    have HB := Lib.hid (unhexV_hex dl hdl)
    rw [HB.out] at HZ
    have HDL := Lib.hid hdl
    have HO1 := Lib.hid (cells_one32 (unhexV l).1)
    have HO2 := Lib.hid (cells_one32 dl)
    clear hi32 hdl hsz HB
    generalize (unhexV l).1 = xl at *
    generalize (unhexV l).2 = xe at *
    obtain ⟨hx, hhx⟩ : ∃ hx, hx = hexL dl := ⟨_, rfl⟩
    rw [← hhx] at HH HZ
    have HHX := Lib.hid hhx
    clear hhx
    have HDS : Hid ((bcells dl).toArray.size = 32) := by unfold RowKit.Hid; rw [List.size_toArray, bcells_length, HDL.out]
    have HXS : Hid ((bcells xl).toArray.size = 32) := by unfold RowKit.Hid; rw [List.size_toArray, bcells_length, HXL.out]
    go_enter Try.func6, Try.ntmps6
    go_upto_region 3 with fail
    obtain ⟨W0, hW0⟩ : ∃ W0, W0 = w.alloc (.cells (bcells dl).toArray 37) := ⟨_, rfl⟩
    have HR0 : Hid (W0.heap[w.heap.size]? = some (.cells (bcells dl).toArray 37 (0, 0))) := by rw [hW0]; exact heap_alloc_new _ _
    have HB0 : Hid (Below w.heap.size w W0) := by rw [hW0]; exact (Below.refl _ _).alloc (Nat.le_refl _) _
    rw [← hW0]
    clear hW0
    go_wp2_with fail
    refine (HX.out _).mono ?_
    rintro e w1 ⟨rfl, hb1⟩
    have HB1 := Lib.hid hb1
    clear hb1
    go_upto_region 4 with (refine wpList_store_row rfl 37 (.tmp 5) (.tmp 18) rfl w1.heap.size (bcells xl).toArray rfl rfl _ _ (heap_alloc_new _ _) (by rw [HI32.out, HXS.out]) (by rw [HXS.out]; rfl) HO1.out ?_)
    obtain ⟨W2, hW2⟩ : ∃ W2, W2 = (w1.alloc (.cells (Array.replicate 32 (.int .u8 0)) 37)).setRow w1.heap.size (bcells xl).toArray := ⟨_, rfl⟩
    have HV2 : Hid (W2.heap[w1.heap.size]? = some (.cells (bcells xl).toArray 37 (0, 0))) := by rw [hW2]; exact setRow_heap _ _ _ _ _ _ (heap_alloc_new _ _)
    have HB2 : Hid (Below W0.heap.size W0 W2) := by rw [hW2]; exact below_setRow (HB1.out.alloc HB1.out.size _) HB1.out.size
    refine wp_congr_world (W1 := W2) hW2 ?_
    clear hW2
    go_wp2_with fail
    refine (HY.out _).mono ?_
    rintro e w3 ⟨rfl, hb3⟩
    have HB3 := Lib.hid (HB2.out.trans (hb3.mono HB2.out.size))
    have HV3 := Lib.hid ((hb3.block _ (lt_heap HV2.out)).trans HV2.out)
    clear hb3
    go_upto_region 5 with (refine wpList_store_row rfl 37 (.tmp 7) (.tmp 23) rfl w3.heap.size (bcells xl).toArray rfl rfl _ _ (heap_alloc_new _ _) (by rw [HI32.out, HXS.out]) (by rw [HXS.out]; rfl) HO1.out ?_)
    obtain ⟨W4, hW4⟩ : ∃ W4, W4 = (w3.alloc (.cells (Array.replicate 32 (.int .u8 0)) 37)).setRow w3.heap.size (bcells xl).toArray := ⟨_, rfl⟩
    have HU4 : Hid (W4.heap[w3.heap.size]? = some (.cells (bcells xl).toArray 37 (0, 0))) := by rw [hW4]; exact setRow_heap _ _ _ _ _ _ (heap_alloc_new _ _)
    have hb4 : Below w3.heap.size w3 W4 := by rw [hW4]; exact below_setRow ((Below.refl _ _).alloc (Nat.le_refl _) _) (Nat.le_refl _)
    refine wp_congr_world (W1 := W4) hW4 ?_
    have HB4 := Lib.hid (HB3.out.trans (hb4.mono HB3.out.size))
    have HV4 := Lib.hid ((hb4.block _ (lt_heap HV3.out)).trans HV3.out)
    have HR4 := Lib.hid ((HB4.out.block _ (lt_heap HR0.out)).trans HR0.out)
    clear hW4 hb4
    go_wp2_with (refine wpList_load_row rfl 37 (.tmp 2) rfl w.heap.size rfl _ _ _ (.array 32 5) HR4.out (by kernel_rfl) rfl (by rw [HI32.out, HDS.out]) ?_)
    refine (HH.out _).mono ?_
    rintro e w5 ⟨rfl, hb5⟩
    go_wp2_with fail
    refine (HZ.out _).mono ?_
    rintro e w6 ⟨rfl, hb6⟩
    have hb56 := hb5.trans (hb6.mono hb5.size)
    have HB6 := Lib.hid (HB4.out.trans (hb56.mono HB4.out.size))
    have HV6 := Lib.hid ((hb56.block _ (lt_heap HV4.out)).trans HV4.out)
    have HU6 := Lib.hid ((hb56.block _ (lt_heap HU4.out)).trans HU4.out)
    have HR6 := Lib.hid ((hb56.block _ (lt_heap HR4.out)).trans HR4.out)
    clear hb5 hb6 hb56
    go_upto_region 6 with (refine wpList_store_row rfl 37 (.tmp 9) (.tmp 29) rfl w6.heap.size (bcells dl).toArray rfl rfl _ _ (heap_alloc_new _ _) (by rw [HI32.out, HDS.out]) (by rw [HDS.out]; rfl) HO2.out ?_)
    obtain ⟨W7, hW7⟩ : ∃ W7, W7 = (w6.alloc (.cells (Array.replicate 32 (.int .u8 0)) 37)).setRow w6.heap.size (bcells dl).toArray := ⟨_, rfl⟩
    have HT7 : Hid (W7.heap[w6.heap.size]? = some (.cells (bcells dl).toArray 37 (0, 0))) := by rw [hW7]; exact setRow_heap _ _ _ _ _ _ (heap_alloc_new _ _)
    have hb7 : Below w6.heap.size w6 W7 := by rw [hW7]; exact below_setRow ((Below.refl _ _).alloc (Nat.le_refl _) _) (Nat.le_refl _)
    refine wp_congr_world (W1 := W7) hW7 ?_
    have HB7 := Lib.hid (HB6.out.trans (hb7.mono HB6.out.size))
    have HV7 := Lib.hid ((hb7.block _ (lt_heap HV6.out)).trans HV6.out)
    have HU7 := Lib.hid ((hb7.block _ (lt_heap HU6.out)).trans HU6.out)
    have HR7 := Lib.hid ((hb7.block _ (lt_heap HR6.out)).trans HR6.out)
    clear hW7 hb7
    refine wp_region_any (by kernel_rfl) ?_
    refine wpAny_ops (ops' := textsOps) (by kernel_rfl) ?_
    refine textsRegion _ W7 ?hs dl xl hx xe w.heap.size w1.heap.size w3.heap.size w6.heap.size HDL.out HXL.out HHX.out.symm HR7.out HV7.out HU7.out HT7.out rfl rfl rfl rfl rfl rfl rfl ?_
    case hs => simp
    intro w8 hb8
    simp only [textsSlots, List.foldl_cons, List.foldl_nil]
    simp only [textsVal]
    simp only [Act.put, List.setIfInBounds_toArray, List.set_cons_zero, List.set_cons_succ]
    go_wp2_with fail
    go_ret
    exact ⟨rfl, HB0.out.trans ((HB7.out.trans (hb8.mono HB7.out.size)).mono HB0.out.size)⟩
  · go_enter Try.func6, Try.ntmps6
    go_wp2_with fail
    refine (known_any _).mono ?_
    rintro e w8 ⟨rfl, hb8⟩
    go_wp2_with fail
    go_ret
    exact ⟨rfl, ((Below.refl _ _).alloc (Nat.le_refl _) _).trans (hb8.mono (by simp))⟩
end Go.Proofs.Ytjglboejgmplgaa
