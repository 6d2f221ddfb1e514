/-
  The walk of the law ImageChecks: any image is right, or wrong, as the document says, and is laid down, or refused.
-/
import Derived.Test.YtjhopgmionpkoaaImageChecksR
import Derived.Test.YtjhopgmionpkoaaOpenM
namespace Go.Proofs.Ytjhopgmionpkoaa
set_option maxRecDepth 20000
open Go.RowKit Mem

abbrev ImArg (w : World) (m : Im) (A1 A2 A3 : Option Addr) (c1 c2 c3 : Nat) : Prop := ImAt w m A1 A2 A3 c1 c2 c3 ∧ ImOk m
set_option maxRecDepth 100000 in
set_option maxHeartbeats 8000000 in
theorem imageChecks_walk (w : World) (m : Im) (A1 A2 A3 : Option Addr) (c1 c2 c3 : Nat) (hm : ImArg w m A1 A2 A3 c1 c2 c3) :
    Calls Try.prog 3 #[imAgg m A1 A2 A3 c1 c2 c3] w fun e w' => e = .returned (.bool true) ∧ Below w.heap.size w w' := by
  obtain ⟨hA, hok⟩ := hm
  have HA := Lib.hid hA
  have HLT := Lib.hid (fun W => imlight m A1 A2 A3 c1 c2 c3 W)
  have HB0 : Hid (∀ X, Below w.heap.size w (w.alloc X)) := fun X => (Below.refl _ _).alloc (Nat.le_refl _) X
  clear hA
  by_cases hlt : m.step.length ≤ 2000 ∧ m.move.length ≤ 2000 ∧ m.first.length ≤ 200
  · have hlen : ImLen m := ⟨by omega, by omega, by omega⟩
    rw [decide_eq_true hlt] at HLT
    have HE1 := Lib.hid (fun W h => imencode m A1 A2 A3 c1 c2 c3 W h hlen hok)
    have HE2 := Lib.hid (fun W h => refimencode m A1 A2 A3 c1 c2 c3 W h hlen hok)
    have HLEN := Lib.hid hlen
    have HOK := Lib.hid hok
    clear hlen hok hlt
    generalize (imEnc m).1 = bf at *
    generalize (imEnc m).2 = er at *
    unfold imAgg at *
    go_enter Try.func3, Try.ntmps3
    go_wp2_with fail
    obtain ⟨W0, hW0⟩ : ∃ W0, W0 = w.alloc (.cells #[.int .u32 m.ver, .int .u32 m.frm, .int .i64 m.el, .int .i64 m.fr.sl, .int .i64 m.fr.ol, .int .i64 m.fr.nw, .int .i64 m.fr.is, .int .i64 m.fr.os, .slice A1 m.first.length c1, .slice A2 m.step.length c2, .slice A3 m.move.length c3, .int .i64 m.sf, .int .i64 m.mf] 28) := ⟨_, rfl⟩
    rw [← hW0]
    have HR0 : Hid (W0.heap[w.heap.size]? = some (.cells #[.int .u32 m.ver, .int .u32 m.frm, .int .i64 m.el, .int .i64 m.fr.sl, .int .i64 m.fr.ol, .int .i64 m.fr.nw, .int .i64 m.fr.is, .int .i64 m.fr.os, .slice A1 m.first.length c1, .slice A2 m.step.length c2, .slice A3 m.move.length c3, .int .i64 m.sf, .int .i64 m.mf] 28 (0, 0))) := by unfold RowKit.Hid; rw [hW0]; exact heap_alloc_new _ _
    have HBB0 : Hid (Below w.heap.size w W0) := by unfold RowKit.Hid; rw [hW0]; exact HB0.out _
    clear hW0
    refine (HLT.out _).mono ?_
    rintro e w1 ⟨rfl, hb1⟩
    have HR1 := Lib.hid ((hb1.block _ (Array.getElem?_eq_some_iff.1 HR0.out).1).trans HR0.out)
    have HB1 := Lib.hid (HBB0.out.trans (hb1.mono HBB0.out.size))
    clear hb1 HR0 HBB0
    go_wp2_with (refine wpList_load_row rfl 28 (.tmp 1) rfl w.heap.size rfl _ _ _ _ HR1.out Try.underlying28 rfl infoImS ?_)
    refine (HE1.out _ (HA.out.below HB1.out (Nat.le_refl _))).mono ?_
    rintro e w2 ⟨Ax, cx, rfl, hx, _, hb2⟩
    have HX2 := Lib.hid hx.at_
    have HR2 := Lib.hid ((hb2.block _ (Array.getElem?_eq_some_iff.1 HR1.out).1).trans HR1.out)
    have HB2 := Lib.hid (HB1.out.trans (hb2.mono HB1.out.size))
    clear hb2 HR1 HB1 hx
    go_wp2_with (refine wpList_load_row rfl 28 (.tmp 1) rfl w.heap.size rfl _ _ _ _ HR2.out Try.underlying28 rfl infoImS ?_)
    refine (HE2.out _ (HA.out.below HB2.out (Nat.le_refl _))).mono ?_
    rintro e w3 ⟨Ay, cy, rfl, hy, _, hb3⟩
    have HY3 := Lib.hid hy.at_
    have HX3 := Lib.hid (HX2.out.below hb3 (Nat.le_refl _))
    have HR3 := Lib.hid ((hb3.block _ (Array.getElem?_eq_some_iff.1 HR2.out).1).trans HR2.out)
    have HB3 := Lib.hid (HB2.out.trans (hb3.mono HB2.out.size))
    clear hb3 HR2 HB2 hy HX2
    go_wp2_with fail
    refine wp_region_any (by kernel_rfl) ?_
    refine wpAny_by (ops' := ichkOps) (by kernel_rfl) ?_
    refine ichkRegion _ w3 ?hs m A1 A2 A3 c1 c2 c3 w.heap.size bf er Ax Ay cx cy (HA.out.below HB3.out (Nat.le_refl _)) HLEN.out HOK.out HX3.out HY3.out HR3.out rfl rfl rfl rfl rfl ?_
    case hs => simp
    intro w5 hb5
    simp only [ichkSlots, List.foldl_cons, List.foldl_nil]
    simp only [ichkVal]
    simp only [Act.put, List.setIfInBounds_toArray, List.set_cons_zero, List.set_cons_succ]
    have HB5 := Lib.hid (HB3.out.trans (hb5.mono HB3.out.size))
    clear hb5
    go_wp2_with fail
    go_ret
    exact ⟨rfl, HB5.out⟩
  · rw [decide_eq_false hlt] at HLT
    clear hlt
    unfold imAgg at *
    go_enter Try.func3, Try.ntmps3
    go_wp2_with fail
    refine (HLT.out _).mono ?_
    rintro e w1 ⟨rfl, hb1⟩
    have HB1 := Lib.hid ((HB0.out _).trans (hb1.mono (by simp)))
    clear hb1
    go_wp2_with fail
    refine (imknown _).mono ?_
    rintro e w2 ⟨rfl, hb2⟩
    have HB2 := Lib.hid (HB1.out.trans (hb2.mono HB1.out.size))
    clear hb2
    go_wp2_with fail
    go_ret
    exact ⟨rfl, HB2.out⟩
end Go.Proofs.Ytjhopgmionpkoaa
