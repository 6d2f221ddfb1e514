/-
  The test of the reference's Parse, whatever the order.
  The image of bytes, by the reference: Parse.
-/
import Derived.Test.YtjhopgmionpkoaaIm3
import Derived.Test.YtjhopgmionpkoaaJu1
import Derived.Test.YtjhopgmionpkoaaRgn
import Derived.Test.YtjhopgmionpkoaaIm5
import Derived.Test.YtjhopgmionpkoaaImK
namespace Go.Proofs.Ytjhopgmionpkoaa
set_option maxRecDepth 20000
open Go.RowKit Mem

set_option linter.unusedVariables false
noncomputable def rimpOps : Array Oper := findOps 4 ((Try.f17).body.getD (.exit 0))
def rimpSlots : List (Nat × Nat) := [(0, 12), (2, 14), (3, 15), (4, 16), (5, 17)]
def rimpCh : List (Nat × Option Nat) := [(1, some 13)]
def rimpVal (m : Im) (A1 A2 A3 : Option Addr) (c1 c2 c3 : Nat) (bs : Ia.Bs) (Ab : Option Addr) (cb nb : Nat) (q : Bool) : Nat → Value
  | 0 => imAgg m A1 A2 A3 c1 c2 c3
  | 2 => .string ⟨(laidB m).toArray⟩
  | 3 => .slice Ab nb cb
  | 4 => .string ⟨bs.toArray⟩
  | _ => .bool q
def RimpC (x : Ia.Bs) (L : Nat → Bool) (vs : Nat → Value) (w : World) : Prop := L 1 = true → ∃ A c, vs 13 = .slice A x.length c ∧ BytesAt w A x
theorem neq_lists (a b : List UInt8) : ((⟨a.toArray⟩ : ByteArray).toList != (⟨b.toArray⟩ : ByteArray).toList) = decide (a ≠ b) := by
  rw [ByteArray.toList_eq, ByteArray.toList_eq]
  show (a != b) = _
  by_cases h : a = b
  · rw [decide_eq_false (fun hh => hh h), h]; simp
  · rw [decide_eq_true h]; exact bne_iff_ne.2 h
theorem x_neq_str {P : Program} {a : Act} {w : World} {o : Oper} {x y : Operand} {t t2 : TypeId} {s r : ByteArray} (ho : o.op = .binOp .neq t x y t2) (hx : a.eval x = .string s) (hy : a.eval y = .string r) : (execOp a.eval o).run P w = .ok (.value (.bool (s.toList != r.toList))) w := by
  unfold execOp
  simp only [ho, hx, hy]
  simp [eqGuard, go_sem]
  simp [bne]
theorem rimpRegion {Q : Exit → Act → World → Prop} (a0 : Act) (W0 : World) (hs : 17 < a0.tmps.size) (m : Im) (A1 A2 A3 : Option Addr) (c1 c2 c3 g : Nat) (bs : Ia.Bs) (Ab : Option Addr) (cb nb : Nat) (q : Bool) (hA : ImAt W0 m A1 A2 A3 c1 c2 c3) (hF : Fits m) (hb : BytesAt W0 Ab bs) (hnb : bs.length = nb) (hq : decide (laidB m ≠ bs) = q) (hg : W0.heap[g]? = some (.cells #[.int .u32 m.ver, .int .u32 m.frm, .int .i64 m.el, .int .i64 m.fr.sl, .int .i64 m.fr.ol, .int .i64 m.fr.nw, .int .i64 m.fr.is, .int .i64 m.fr.os, .slice A1 m.first.length c1, .slice A2 m.step.length c2, .slice A3 m.move.length c3, .int .i64 m.sf, .int .i64 m.mf] 28 (0, 0)))
    (e0 : a0.eval (.tmp 0) = .slice Ab nb cb)
    (e4 : a0.eval (.tmp 4) = .pointer (some ⟨g, 0, none⟩))
    (hQ : ∀ (vs : Nat → Value) w, Below W0.heap.size W0 w → (RimpC (laidB m)) (fun _ => true) vs w → Q .normal (rimpSlots.foldl (fun x p => x.put (some p.2) ((rimpVal m A1 A2 A3 c1 c2 c3 bs Ab cb nb q) p.1)) ([13].foldl (fun x d => x.put (some d) (vs d)) a0)) w) :
    wpAny Try.prog .any rimpOps Q 6 (Array.replicate 6 false) a0 W0.drew := by
  have ok : slotsFix rimpSlots a0.tmps.size = true := by
    have : ∀ z, 17 < z → slotsFix rimpSlots z = true := by
      intro z hz
      simp [slotsFix, rimpSlots]
      try omega
    exact this _ hs
  have okc : chainOk rimpSlots rimpCh a0.tmps.size = true := by
    have : ∀ z, 17 < z → chainOk rimpSlots rimpCh z = true := by
      intro z hz
      simp [chainOk, rimpSlots, rimpCh]
      try omega
    exact this _ hs
  have lg : g < W0.heap.size := (Array.getElem?_eq_some_iff.1 hg).1
  refine region_chain (by kernel_rfl) W0 a0 rimpSlots (rimpVal m A1 A2 A3 c1 c2 c3 bs Ab cb nb q) rimpCh (RimpC (laidB m)) ok okc 6 (by kernel_rfl) (by kernel_rfl) (by kernel_rfl) (fun L L' vs w h hc h1 => hc ((h (1, some 13) (by decide)).trans h1)) (fun L vs w w' hc hb h1 => by obtain ⟨A, c, e, hb'⟩ := hc h1; exact ⟨A, c, e, hb'.below hb (Nat.le_refl _)⟩) (fun h => by cases h) ?_ (fun vs w hb hc => hQ vs w hb hc)
  intro a1 i L a w hev h hc hi hf hneed
  replace e0 := (hev 0 rfl).trans e0
  replace e4 := (hev 4 rfl).trans e4
  rcases (show i = 0 ∨ i = 1 ∨ i = 2 ∨ i = 3 ∨ i = 4 ∨ i = 5 by omega) with rfl | rfl | rfl | rfl | rfl | rfl
  · refine .inl ?_
    exact fix_value (i := 0) (d := 12) rfl (wanted_none rfl) rfl (by decide) (x_load_row (cs := imCells m A1 A2 A3 c1 c2 c3) (n := 13) rfl ((h.old rfl).trans e4) ((h.below.block _ lg).trans hg) Try.underlying28 rfl (by kernel_rfl) rfl)
  · refine .inr ?_
    refine ⟨some 13, by decide, ch_call (i := 1) 28 Try.f28 #[.tmp 12] _ #[imAgg m A1 A2 A3 c1 c2 c3] rfl (wanted_none rfl) rfl (by simp [(h.get 0 12 (by decide) (hneed 0 (by kernel_rfl))), rimpVal]) Try.func28 (by kernel_rfl) (by kernel_rfl) ?_⟩
    refine (reflaid m A1 A2 A3 c1 c2 c3 w (hA.below h.below (Nat.le_refl _)) hF).mono ?_
    rintro e w' ⟨A9, c9, rfl, hs9, hc9, hbw⟩
    exact ⟨_, rfl, _, rfl, h.below.trans (hbw.mono h.below.size), fun _ => ⟨A9, c9, if_pos rfl, BSrc.at_ hs9⟩⟩
  · refine .inl ?_
    exact fix_value (i := 2) (d := 14) rfl (wanted_none rfl) rfl (by decide) (by obtain ⟨A9, c9, e9', hb9⟩ := hc (hneed 1 (by kernel_rfl)); exact x_conv rfl ((h.old rfl).trans e9') (conv_bytes w A9 c9 (laidB m) hb9))
  · refine .inl ?_
    exact fix_value (i := 3) (d := 15) rfl (wanted_none rfl) rfl (by decide) (x_move rfl ((h.old rfl).trans e0))
  · refine .inl ?_
    exact fix_value (i := 4) (d := 16) rfl (wanted_none rfl) rfl (by decide) (x_conv rfl (h.get 3 15 (by decide) (hneed 3 (by kernel_rfl))) (by have := conv_bytes w Ab cb bs (hb.below h.below (Nat.le_refl _)); rw [hnb] at this; exact this))
  · refine .inl ?_
    exact fix_value (i := 5) (d := 17) rfl (wanted_none rfl) rfl (by decide) ((x_neq_str rfl (h.get 2 14 (by decide) (hneed 2 (by kernel_rfl))) (h.get 4 16 (by decide) (hneed 4 (by kernel_rfl)))).trans (by rw [neq_lists, hq]; rfl))
end Go.Proofs.Ytjhopgmionpkoaa
namespace Go.Proofs.Ytjhopgmionpkoaa
set_option maxRecDepth 20000
open Go.RowKit Mem

set_option maxRecDepth 100000 in
set_option maxHeartbeats 8000000 in
theorem refimparse (bs : Ia.Bs) (A : Option Addr) (c : Nat) (w : World) (hA : BytesAt w A bs) (hc : bs.length ≤ c) (hn : bs.length ≤ 1000000) :
    Calls Try.prog 17 #[.slice A bs.length c] w (ParsePost (imParse bs).1 (imParse bs).2 w) := by
  have HA := Lib.hid hA
  have HRD := Lib.hid (fun W h => refimread bs A c W h hc hn)
  have HB0 : Hid (∀ X, Below w.heap.size w (w.alloc X)) := fun X => (Below.refl _ _).alloc (Nat.le_refl _) X
  have HZ0 : Hid (∀ X, (w.alloc X).heap[w.heap.size]? = some X) := fun X => heap_alloc_new _ _
  obtain ⟨pm, hpm⟩ : ∃ p, p = imParse bs := ⟨_, rfl⟩
  rw [← hpm]
  have HPM := Lib.hid hpm
  clear hA hpm
  by_cases hbig : 2016 < bs.length
  · have HP : Hid (pm = (Im.zero, 3)) := by unfold RowKit.Hid; rw [HPM.out]; unfold imParse; rw [if_pos hbig]
    have hb : (2016 : Int) < (bs.length : Int) := by omega
    have HBB := Lib.hid (HB0.out (.cells #[.int .u32 0, .int .u32 0, .int .i64 0, .int .i64 0, .int .i64 0, .int .i64 0, .int .i64 0, .int .i64 0, .slice none 0 0, .slice none 0 0, .slice none 0 0, .int .i64 0, .int .i64 0] 28))
    go_enter Try.func17, Try.ntmps17
    have HZ := Lib.hid (HZ0.out (.cells #[.int .u32 0, .int .u32 0, .int .i64 0, .int .i64 0, .int .i64 0, .int .i64 0, .int .i64 0, .int .i64 0, .slice none 0 0, .slice none 0 0, .slice none 0 0, .int .i64 0, .int .i64 0] 28))
    go_wp2_with (refine wpList_store_row rfl 28 (.tmp 2) (.tmp 9) rfl w.heap.size _ rfl rfl _ _ HZ.out infoImS rfl zrow_one ?_)
    refine ret_im (v := .int .i64 (3)) 2 3 ?r1 ?r2 ?r3 ?r4 (setRow_heap _ _ _ #[.int .u32 0, .int .u32 0, .int .i64 0, .int .i64 0, .int .i64 0, .int .i64 0, .int .i64 0, .int .i64 0, .slice none 0 0, .slice none 0 0, .slice none 0 0, .int .i64 0, .int .i64 0] _ _ HZ.out) ?r5 ?_
    case r1 => rfl
    case r2 => rfl
    case r3 => rfl
    case r4 => rfl
    case r5 => rfl
    rw [HP.out]
    exact ⟨none, none, none, 0, 0, 0, rfl, imNew_zero _ _, below_setRow_ HBB.out (Nat.le_refl _)⟩
  · have hb : ¬ (2016 : Int) < (bs.length : Int) := by omega
    have HPR := Lib.hid (parse_ref hbig)
    have hfit := rdL_fits (bs := bs) (by omega)
    have HFIT := Lib.hid hfit
    have hlen : ImLen (rdL bs) := ⟨by have := hfit.fl; omega, by have := hfit.se.2; omega, by have := hfit.me.2; omega⟩
    have HC := Lib.hid (fun A1 A2 A3 c1 c2 c3 W h => refimcheck (rdL bs) A1 A2 A3 c1 c2 c3 W h hlen hfit.toImOk)
    clear hfit hlen
    go_enter Try.func17, Try.ntmps17
    go_wp2_with fail
    obtain ⟨W0, hW0⟩ : ∃ W0, W0 = w.alloc (.cells #[.int .u32 0, .int .u32 0, .int .i64 0, .int .i64 0, .int .i64 0, .int .i64 0, .int .i64 0, .int .i64 0, .slice none 0 0, .slice none 0 0, .slice none 0 0, .int .i64 0, .int .i64 0] 28) := ⟨_, rfl⟩
    rw [← hW0]
    have HZ1 : Hid (W0.heap[w.heap.size]? = some (.cells #[.int .u32 0, .int .u32 0, .int .i64 0, .int .i64 0, .int .i64 0, .int .i64 0, .int .i64 0, .int .i64 0, .slice none 0 0, .slice none 0 0, .slice none 0 0, .int .i64 0, .int .i64 0] 28 (0, 0))) := by unfold RowKit.Hid; rw [hW0]; exact heap_alloc_new _ _
    have HB1 : Hid (Below w.heap.size w W0) := by unfold RowKit.Hid; rw [hW0]; exact HB0.out _
    have hz0 : w.heap.size < W0.heap.size := by rw [hW0]; simp
    clear hW0
    refine (HRD.out _ (HA.out.below HB1.out (Nat.le_refl _))).mono ?_
    rintro e w1 ⟨A1, A2, A3, c1, c2, c3, rfl, hnew, hb1⟩
    obtain ⟨m, hm⟩ : ∃ m, m = rdL bs := ⟨_, rfl⟩
    rw [← hm] at hnew HPR HFIT HC ⊢
    have HNEW := Lib.hid hnew
    have HZ2 := Lib.hid ((hb1.block _ (Array.getElem?_eq_some_iff.1 HZ1.out).1).trans HZ1.out)
    have HB2 := Lib.hid (HB1.out.trans (hb1.mono HB1.out.size))
    have hz1 := hb1.size
    clear hnew hb1 HZ1 HB1 HRD hm
    unfold imAgg at *
    go_wp2_with fail
    obtain ⟨W2, hW2⟩ : ∃ W2, W2 = w1.alloc (.cells #[.int .u32 m.ver, .int .u32 m.frm, .int .i64 m.el, .int .i64 m.fr.sl, .int .i64 m.fr.ol, .int .i64 m.fr.nw, .int .i64 m.fr.is, .int .i64 m.fr.os, .slice A1 m.first.length c1, .slice A2 m.step.length c2, .slice A3 m.move.length c3, .int .i64 m.sf, .int .i64 m.mf] 28) := ⟨_, rfl⟩
    rw [← hW2]
    have HM2 : Hid (W2.heap[w1.heap.size]? = some (.cells #[.int .u32 m.ver, .int .u32 m.frm, .int .i64 m.el, .int .i64 m.fr.sl, .int .i64 m.fr.ol, .int .i64 m.fr.nw, .int .i64 m.fr.is, .int .i64 m.fr.os, .slice A1 m.first.length c1, .slice A2 m.step.length c2, .slice A3 m.move.length c3, .int .i64 m.sf, .int .i64 m.mf] 28 (0, 0))) := by unfold RowKit.Hid; rw [hW2]; exact heap_alloc_new _ _
    have hbt : Below w1.heap.size w1 W2 := by rw [hW2]; exact (Below.refl _ _).alloc (Nat.le_refl _) _
    have HN2 := Lib.hid (HNEW.out.below hbt)
    have HZ3 := Lib.hid ((hbt.block _ (Array.getElem?_eq_some_iff.1 HZ2.out).1).trans HZ2.out)
    have HB3 := Lib.hid (HB2.out.trans (hbt.mono HB2.out.size))
    clear hW2 hbt HZ2 HB2 HNEW
    obtain ⟨q, hq⟩ : ∃ q, decide (laidB m ≠ bs) = q := ⟨_, rfl⟩
    have HQ := Lib.hid hq
    clear hq
    refine wp_region_any (by kernel_rfl) ?_
    refine wpAny_by (ops' := rimpOps) (by kernel_rfl) ?_
    refine rimpRegion _ W2 ?hs m A1 A2 A3 c1 c2 c3 w1.heap.size bs A c bs.length q HN2.out.at_ HFIT.out (HA.out.below HB3.out (Nat.le_refl _)) rfl HQ.out HM2.out rfl rfl ?_
    case hs => simp
    intro vs w3 hb3 _
    simp only [rimpSlots, List.foldl_cons, List.foldl_nil]
    simp only [rimpVal]
    simp only [Act.put, List.setIfInBounds_toArray, List.set_cons_zero, List.set_cons_succ]
    have HN3 := Lib.hid (HN2.out.below hb3)
    have HM3 := Lib.hid ((hb3.block _ (Array.getElem?_eq_some_iff.1 HM2.out).1).trans HM2.out)
    have HZ4 := Lib.hid ((hb3.block _ (Array.getElem?_eq_some_iff.1 HZ3.out).1).trans HZ3.out)
    have HB4 := Lib.hid (HB3.out.trans (hb3.mono HB3.out.size))
    clear hb3 HN2 HM2 HZ3 HB3
    cases q
    case true =>
      have HP : Hid (pm = (Im.zero, 4)) := by unfold RowKit.Hid; rw [HPM.out, HPR.out, if_pos (of_decide_eq_true HQ.out)]
      have HBB := Lib.hid HB4.out
      go_wp2_with (refine wpList_store_row rfl 28 (.tmp 2) (.tmp 18) rfl w.heap.size _ rfl rfl _ _ HZ4.out infoImS rfl zrow_one ?_)
      refine ret_im (v := .int .i64 (4)) 2 3 ?r1 ?r2 ?r3 ?r4 (setRow_heap _ _ _ #[.int .u32 0, .int .u32 0, .int .i64 0, .int .i64 0, .int .i64 0, .int .i64 0, .int .i64 0, .int .i64 0, .slice none 0 0, .slice none 0 0, .slice none 0 0, .int .i64 0, .int .i64 0] _ _ HZ4.out) ?r5 ?_
      case r1 => rfl
      case r2 => rfl
      case r3 => rfl
      case r4 => rfl
      case r5 => rfl
      rw [HP.out]
      exact ⟨none, none, none, 0, 0, 0, rfl, imNew_zero _ _, below_setRow_ HBB.out (Nat.le_refl _)⟩
    have HLE : Hid (laidB m = bs) := by unfold RowKit.Hid; exact Decidable.of_not_not (of_decide_eq_false HQ.out)
    go_wp2_with (refine wpList_load_row rfl 28 (.tmp 4) rfl w1.heap.size rfl _ _ _ _ HM3.out Try.underlying28 rfl infoImS ?_)
    refine (HC.out A1 A2 A3 c1 c2 c3 _ HN3.out.at_).mono ?_
    rintro e w5 ⟨rfl, hb5⟩
    have HN5 := Lib.hid (HN3.out.below hb5)
    have HM5 := Lib.hid ((hb5.block _ (Array.getElem?_eq_some_iff.1 HM3.out).1).trans HM3.out)
    have HZ5 := Lib.hid ((hb5.block _ (Array.getElem?_eq_some_iff.1 HZ4.out).1).trans HZ4.out)
    have HBB := Lib.hid (HB4.out.trans (hb5.mono HB4.out.size))
    clear hb5 HN3 HM3 HZ4 HB4 HC
    by_cases hz : chk m = 0
    · have HP : Hid (pm = (m, 0)) := by unfold RowKit.Hid; rw [HPM.out, HPR.out, if_neg (fun h => h HLE.out), if_neg (fun h => h hz)]
      rw [hz]
      clear hz
      go_wp2_with (first | refine wpList_load_row rfl 28 (.tmp 4) rfl w1.heap.size rfl _ _ _ _ HM5.out Try.underlying28 rfl infoImS ?_ | refine wpList_store_row rfl 28 (.tmp 2) (.tmp 25) rfl w.heap.size _ rfl rfl _ _ HZ5.out infoImS rfl (imrow_one m A1 A2 A3 c1 c2 c3) ?_)
      refine ret_im (v := .int .i64 (0)) 2 3 ?r1 ?r2 ?r3 ?r4 (setRow_heap _ _ _ #[.int .u32 m.ver, .int .u32 m.frm, .int .i64 m.el, .int .i64 m.fr.sl, .int .i64 m.fr.ol, .int .i64 m.fr.nw, .int .i64 m.fr.is, .int .i64 m.fr.os, .slice A1 m.first.length c1, .slice A2 m.step.length c2, .slice A3 m.move.length c3, .int .i64 m.sf, .int .i64 m.mf] _ _ HZ5.out) ?r5 ?_
      case r1 => rfl
      case r2 => rfl
      case r3 => rfl
      case r4 => rfl
      case r5 => rfl
      rw [HP.out]
      exact ⟨A1, A2, A3, c1, c2, c3, rfl, (HN5.out.setRow hz0 _).base (Nat.le_of_lt hz0), below_setRow_ HBB.out (Nat.le_refl _)⟩
    · have HP : Hid (pm = (Im.zero, chk m)) := by unfold RowKit.Hid; rw [HPM.out, HPR.out, if_neg (fun h => h HLE.out), if_pos hz]
      have bz : (chk m == 0) = false := by simpa using hz
      have bz2 : (chk m != 0) = true := by simpa using hz
      clear hz
      go_wp2_with (refine wpList_store_row rfl 28 (.tmp 2) (.tmp 23) rfl w.heap.size _ rfl rfl _ _ HZ5.out infoImS rfl zrow_one ?_)
      refine ret_im (v := .int .i64 (chk m)) 2 3 ?r1 ?r2 ?r3 ?r4 (setRow_heap _ _ _ #[.int .u32 0, .int .u32 0, .int .i64 0, .int .i64 0, .int .i64 0, .int .i64 0, .int .i64 0, .int .i64 0, .slice none 0 0, .slice none 0 0, .slice none 0 0, .int .i64 0, .int .i64 0] _ _ HZ5.out) ?r5 ?_
      case r1 => rfl
      case r2 => rfl
      case r3 => rfl
      case r4 => rfl
      case r5 => rfl
      rw [HP.out]
      exact ⟨none, none, none, 0, 0, 0, rfl, imNew_zero _ _, below_setRow_ HBB.out (Nat.le_refl _)⟩
end Go.Proofs.Ytjhopgmionpkoaa
