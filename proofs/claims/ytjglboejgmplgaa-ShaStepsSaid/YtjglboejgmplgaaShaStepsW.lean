/-
  The walk of the law ShaSteps: the state behind any block, from any state on, is as the document says, or it is no block.
-/
import Derived.Test.YtjglboejgmplgaaShaV
import Derived.Test.YtjglboejgmplgaaShaK
import Derived.Test.YtjglboejgmplgaaOpenR
namespace Go.Proofs.Ytjglboejgmplgaa
open Go.RowKit Mem

def stepV (s : Sh.St) (b : List UInt8) : List UInt32 × Int := if b.length = 64 then (Sh.stL (Sh.step s b), 0) else (List.replicate 8 0, 1)
theorem stepV_len (s : Sh.St) (b : List UInt8) : (stepV s b).1.length = 8 := by unfold stepV; split <;> rfl
theorem shastep_any (s : Sh.St) (b : List UInt8) (A : Option Addr) (c : Nat) (w : World) (hA : BytesAt w A b) :
    Calls Try.prog 11 #[.agg (wcells (Sh.stL s)).toArray, .slice A b.length c] w fun e w' => e = .returned (.tuple #[.agg (wcells (stepV s b).1).toArray, .int .i64 (stepV s b).2]) ∧ Below w.heap.size w w' := by
  unfold stepV
  by_cases h : b.length = 64
  · rw [if_pos h, h]; exact shastep_ok s b A c w hA h
  · rw [if_neg h]; exact shastep_bad s _ A c w h
theorem refstep_any (s : Sh.St) (b : List UInt8) (A : Option Addr) (c : Nat) (w : World) (hA : BytesAt w A b) :
    Calls Try.prog 12 #[.agg (wcells (Sh.stL s)).toArray, .slice A b.length c] w fun e w' => e = .returned (.tuple #[.agg (wcells (stepV s b).1).toArray, .int .i64 (stepV s b).2]) ∧ Below w.heap.size w w' := by
  unfold stepV
  by_cases h : b.length = 64
  · rw [if_pos h, h]; exact refstep_ok s b A c w hA h
  · rw [if_neg h]; exact refstep_bad s _ A c w h
theorem size_of_u32 (w : World) : (sizeOf 22).run Try.prog w = .ok 1 w := by
  obtain ⟨i0, hi, hi0, hi1, hi2⟩ := info_parts infoWord
  rw [run_sizeOf _ hi]
  have : Try.prog.cellsOf 22 = 1 := by kernel_rfl
  rw [this]
theorem wcells_ints (l : List UInt32) : wcells l = (l.map fun x => (x.toNat : Int)).map (Value.int .u32) := by unfold wcells; rw [List.map_map]; rfl
theorem eq8 (l : List UInt32) (hl : l.length = 8) (w : World) : (Op.equalIn 10000 23 (.agg (wcells l).toArray) (.agg (wcells l).toArray)).run Try.prog w = .ok true w := by
  rw [wcells_ints]
  exact equalIn_self (P := Try.prog) w 9998 23 22 8 .u32 (by kernel_rfl) (by kernel_rfl) size_of_u32 _ (by rw [List.length_map, hl])
theorem eql8 (l : List UInt32) (hl : l.length = 8) (w : World) : (binOp .eql 23 (.agg (wcells l).toArray) (.agg (wcells l).toArray)).run Try.prog w = .ok (.bool true) w := by
  rw [run_eql_struct, eq8 l hl]; rfl
set_option maxRecDepth 100000 in
set_option maxHeartbeats 4000000 in
theorem shaSteps_walk (w : World) (s : Sh.St) (_ : True) (A : Option Addr) (c : Nat) (b : List UInt8) (hA : BArg w A c b) :
    Calls Try.prog 3 #[.agg (wcells (Sh.stL s)).toArray, .slice A b.length c] w fun e w' => e = .returned (.bool true) ∧ Below w.heap.size w w' := by
  obtain ⟨hA1, hA2, hA3⟩ := hA
  have HS : Hid ((wcells (Sh.stL s)).toArray = #[.int .u32 (s.a.toNat : Int), .int .u32 (s.b.toNat : Int), .int .u32 (s.c.toNat : Int), .int .u32 (s.d.toNat : Int), .int .u32 (s.e.toNat : Int), .int .u32 (s.f.toNat : Int), .int .u32 (s.g.toNat : Int), .int .u32 (s.h.toNat : Int)]) := rfl
  have HA := Lib.hid hA1
  clear hA1
  rw [HS.out]
  by_cases h1 : b.length ≤ 16384
  · go_enter Try.func3, Try.ntmps3
    go_upto_region 3 with fail
    rw [← HS.out]
    obtain ⟨W0, hW0⟩ : ∃ W0, W0 = w.alloc (.cells (wcells (Sh.stL s)).toArray 23) := ⟨_, rfl⟩
    have HR0 : Hid (W0.heap[w.heap.size]? = some (.cells (wcells (Sh.stL s)).toArray 23 (0, 0))) := by rw [hW0]; exact heap_alloc_new _ _
    have HB0 : Hid (Below w.heap.size w W0) := by rw [hW0]; exact (Below.refl _ _).alloc (Nat.le_refl _) _
    have HZ0 : Hid (w.heap.size < W0.heap.size) := by rw [hW0]; simp [RowKit.Hid]
    rw [← hW0]
    clear hW0
    have hi8 : (Try.prog.info? 23).map (·.size) = some 8 := by kernel_rfl
    have HI8 := Lib.hid hi8
    have HS8 : Hid ((wcells (Sh.stL s)).toArray.size = 8) := by unfold RowKit.Hid; rw [List.size_toArray, wcells_length, stL_len]
    have HV8 : Hid ((wcells (stepV s b).1).toArray.size = 8) := by unfold RowKit.Hid; rw [List.size_toArray, wcells_length, stepV_len]
    have HEQ := Lib.hid (fun W => eql8 (stepV s b).1 (stepV_len s b) W)
    have HEQ2 := Lib.hid (fun W => eq8 (stepV s b).1 (stepV_len s b) W)
    have HF1 := Lib.hid (fun W => eql8 (Sh.stL Sh.first) rfl W)
    have HF2 := Lib.hid (fun W => eq8 (Sh.stL Sh.first) rfl W)
    have HX := Lib.hid (fun (A : Option Addr) (c : Nat) (W : World) (h : BytesAt W A b) => shastep_any s b A c W h)
    have HY := Lib.hid (fun (A : Option Addr) (c : Nat) (W : World) (h : BytesAt W A b) => refstep_any s b A c W h)
    have HFA := Lib.hid shafirst
    have HFB := Lib.hid reffirst
    clear hi8
    generalize (stepV s b).1 = vl at *
    generalize (stepV s b).2 = ve at *
    generalize wcells (Sh.stL s) = sc at *
    generalize wcells (Sh.stL Sh.first) = fc at *
    go_wp2_with fail
    refine (wlent b A c W0 (HA.out.below HB0.out (Nat.le_refl _)) (by omega)).mono ?_
    rintro e w1 ⟨A1, c1, rfl, hL1, hb1⟩
    have HL1 := Lib.hid hL1
    have HB1 := Lib.hid hb1
    have HR1 := Lib.hid ((hb1.block _ HZ0.out).trans HR0.out)
    clear hL1 hb1
    go_wp2_with (refine wpList_load_row rfl 23 (.tmp 2) rfl w.heap.size rfl _ _ _ (.array 8 22) HR1.out (by kernel_rfl) rfl (by rw [HI8.out, HS8.out]) ?_)
    refine (HX.out A1 c1 _ HL1.out.at_).mono ?_
    rintro e w2 ⟨rfl, hb2⟩
    have HB2 := Lib.hid (HB1.out.trans (hb2.mono HB1.out.size))
    have HL2 := Lib.hid (LentAt.below HL1.out hb2 (Nat.le_refl _))
    have HR2 := Lib.hid ((HB2.out.block _ HZ0.out).trans HR0.out)
    clear hb2
    go_upto_region 5 with (refine wpList_store_row rfl 23 (.tmp 6) (.tmp 20) rfl w2.heap.size (wcells vl).toArray rfl rfl _ _ (heap_alloc_new _ _) (by rw [HI8.out, HV8.out]) (by rw [HV8.out]; rfl) (wcells_one _) ?_)
    obtain ⟨W3, hW3⟩ : ∃ W3, W3 = (w2.alloc (.cells (Array.replicate 8 (.int .u32 0)) 23)).setRow w2.heap.size (wcells vl).toArray := ⟨_, rfl⟩
    have HV3 : Hid (W3.heap[w2.heap.size]? = some (.cells (wcells vl).toArray 23 (0, 0))) := by rw [hW3]; exact setRow_heap _ _ _ _ _ _ (heap_alloc_new _ _)
    have hb3 : Below w2.heap.size w2 W3 := by rw [hW3]; exact below_setRow ((Below.refl _ _).alloc (Nat.le_refl _) _) (Nat.le_refl _)
    refine wp_congr_world (W1 := W3) hW3 ?_
    have HB3 := Lib.hid (HB2.out.trans (hb3.mono HB2.out.size))
    have HL3 := Lib.hid (LentAt.below HL2.out hb3 (Nat.le_refl _))
    have HR3 := Lib.hid ((HB3.out.block _ HZ0.out).trans HR0.out)
    clear hW3 hb3
    go_wp2_with (refine wpList_load_row rfl 23 (.tmp 2) rfl w.heap.size rfl _ _ _ (.array 8 22) HR3.out (by kernel_rfl) rfl (by rw [HI8.out, HS8.out]) ?_)
    refine (HY.out A c _ (BSrc.at_ (HA.out.below (HB0.out.trans (HB3.out.mono HB0.out.size)) (Nat.le_refl _)))).mono ?_
    rintro e w4 ⟨rfl, hb4⟩
    have HB4 := Lib.hid (HB3.out.trans (hb4.mono HB3.out.size))
    have HL4 := Lib.hid (LentAt.below HL3.out hb4 (Nat.le_refl _))
    have HV4 := Lib.hid ((hb4.block _ (Array.getElem?_eq_some_iff.1 HV3.out).1).trans HV3.out)
    clear hb4
    go_upto_region 6 with (refine wpList_store_row rfl 23 (.tmp 8) (.tmp 26) rfl w4.heap.size (wcells vl).toArray rfl rfl _ _ (heap_alloc_new _ _) (by rw [HI8.out, HV8.out]) (by rw [HV8.out]; rfl) (wcells_one _) ?_)
    obtain ⟨W5, hW5⟩ : ∃ W5, W5 = (w4.alloc (.cells (Array.replicate 8 (.int .u32 0)) 23)).setRow w4.heap.size (wcells vl).toArray := ⟨_, rfl⟩
    have HU5 : Hid (W5.heap[w4.heap.size]? = some (.cells (wcells vl).toArray 23 (0, 0))) := by rw [hW5]; exact setRow_heap _ _ _ _ _ _ (heap_alloc_new _ _)
    have hb5 : Below w4.heap.size w4 W5 := by rw [hW5]; exact below_setRow ((Below.refl _ _).alloc (Nat.le_refl _) _) (Nat.le_refl _)
    refine wp_congr_world (W1 := W5) hW5 ?_
    have HB5 := Lib.hid (HB4.out.trans (hb5.mono HB4.out.size))
    have HL5 := Lib.hid (LentAt.below HL4.out hb5 (Nat.le_refl _))
    have HV5 := Lib.hid ((hb5.block _ (Array.getElem?_eq_some_iff.1 HV4.out).1).trans HV4.out)
    clear hW5 hb5
    have heq := HEQ.out
    have heq2 := HEQ2.out
    have hf1 := HF1.out
    have hf2 := HF2.out
    go_wp2_with (first
      | refine wpList_load_row rfl 23 (.tmp 6) rfl w2.heap.size rfl _ _ _ (.array 8 22) HV5.out (by kernel_rfl) rfl (by rw [HI8.out, HV8.out]) ?_
      | refine wpList_load_row rfl 23 (.tmp 8) rfl w4.heap.size rfl _ _ _ (.array 8 22) HU5.out (by kernel_rfl) rfl (by rw [HI8.out, HV8.out]) ?_)
    refine (wkept b A1 A c1 c _ _ HL5.out (BSrc.at_ (HA.out.below (HB0.out.trans (HB5.out.mono HB0.out.size)) (Nat.le_refl _)))).mono ?_
    rintro e w' ⟨rfl, rfl⟩
    go_wp2_with fail
    refine (HFA.out _).mono ?_
    rintro e w6 ⟨rfl, hb6⟩
    go_wp2_with fail
    refine (HFB.out _).mono ?_
    rintro e w7 ⟨rfl, hb7⟩
    go_wp2_with fail
    refine (known_any _).mono ?_
    rintro e w8 ⟨rfl, hb8⟩
    go_wp2_with fail
    go_ret
    have k6 := HB5.out.trans (hb6.mono HB5.out.size)
    have k7 := k6.trans (hb7.mono k6.size)
    exact ⟨rfl, HB0.out.trans ((k7.trans (hb8.mono k7.size)).mono HB0.out.size)⟩
  · go_enter Try.func3, Try.ntmps3
    go_wp2_with fail
    refine (known_any _).mono ?_
    rintro e w8 ⟨rfl, hb8⟩
    go_wp2_with fail
    go_ret
    exact ⟨rfl, ((Below.refl _ _).alloc (Nat.le_refl _) _).trans (hb8.mono (by simp))⟩
end Go.Proofs.Ytjglboejgmplgaa
