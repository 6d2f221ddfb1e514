/-
  The reference's equations: a literal ahead, two tokens.
-/
import Derived.Test.YtilkilffkjhhbaaTrZs
import Derived.BigQuiet
import Derived.Deep.QuietTactic
import Derived.Deep.RegionHeld3
namespace Go.Proofs.Ytilkilffkjhhbaa
set_option maxRecDepth 20000
set_option linter.unusedVariables false
open Go.RowKit Tr Mem

set_option maxRecDepth 100000 in
set_option maxHeartbeats 16000000 in
theorem req_two (bp : Nat) (A : Option Addr) (c : Nat) (ts : List Lx.Tok) (s : St) (hok : ∀ t ∈ ts, TokOk t) (hcap : ts.length ≤ c) (h1 : sees ts (Tr.need ts (Tr.name ts s).2 [61]) wPre = false) (hb : (Tr.need ts (Tr.name ts s).2 [61]).bad = false) (h45 : sees ts (Tr.need ts (Tr.name ts s).2 [61]) [45] = true) (w : World) (h : RowAt w bp 66 A c ts s) :
    Calls Try.prog 42 #[.pointer (some ⟨bp, 0, none⟩)] w (rEqPost w bp A c ts ((match firstP ts (Tr.need ts (Tr.name ts s).2 [61]) with | some (x, s2) => (⟨(Tr.name ts s).1, 1, x, (P ts .expr s2).1⟩, Tr.need ts (P ts .expr s2).2 [59]) | none => (⟨(Tr.name ts s).1, 0, Ex.zero, (P ts .expr (Tr.need ts (Tr.name ts s).2 [61])).1⟩, Tr.need ts (P ts .expr (Tr.need ts (Tr.name ts s).2 [61])).2 [59]) : Eqn × St))) := by
  have HR := Lib.hid h
  have hbw := h.lt
  have hlen0 := h.len
  have HW0 : Hid (∀ V, Below w.heap.size w (w.alloc V)) := fun V => (Below.refl _ _).alloc (Nat.le_refl _) V
  clear h
  have HC := Lib.hid (fun W h => rkind_any bp A c ts s 1 W h)
  unfold tokAgg at HC
  unfold Tr.name at *
  generalize token ts s 1 = tk at *
  obtain ⟨⟨kd, nm, nn, pl⟩, s1⟩ := tk
  dsimp only at *
  have HN := Lib.hid (fun W h => rneed_any bp A c ts s1 [61] W h)
  generalize Tr.need ts s1 [61] = s2 at *
  have hfl := fun W => field_text W kd nn pl nm

  have HT := Lib.hid (fun W h => rtake_any bp A c ts s2 wPre W h)
  rw [h1, if_neg (by decide)] at HT
  unfold wPre at HT
  clear h1
  have HIS := Lib.hid (fun W h => ris_any bp A c ts s2 [45] W h)
  rw [h45] at HIS
  have hle2 : s2.at_ ≤ ts.length → True := fun _ => trivial
  obtain ⟨k, hk⟩ : ∃ k, k = s2.at_ + 2 := ⟨_, rfl⟩
  have hat : (s2.at_ : Int) + 2 = (k : Int) := by omega
  have hrn : rN ts s2 = 2 := by unfold rN; rw [h45]; rfl
  have hfr := first_ref hok hb
  unfold rOk rQ at hfr
  rw [hrn, ← hk] at hfr
  have HRU := Lib.hid (fun sp W h => rpunary sp A c (ts.take k) ⟨s2.at_, false⟩ W h)
  have hs2 : (⟨s2.at_, false⟩ : St) = s2 := by cases s2; simp only at hb; subst hb; rfl
  rw [hs2] at HRU
  have HFT : Hid (Fit (P (ts.take k) .unary s2).1) := P_fit (fun t ht => by have h := hok t (List.mem_of_mem_take ht); exact ⟨⟨by have := h.1.1; omega, h.1.2⟩, by have := h.2.1; unfold maxLen; omega⟩) _ _ trivial
  generalize P (ts.take k) .unary s2 = qq at *
  obtain ⟨x0, s9⟩ := qq
  dsimp only at hfr HFT
  have HFR := Lib.hid hfr
  have HS2 := Lib.hid hs2
  have HPE := Lib.hid (fun s W h => rpexpr bp A c ts s W h)
  have HND := Lib.hid (fun s m W h => rneed_any bp A c ts s m W h)
  obtain ⟨fb, hfb⟩ : ∃ fb, fb = fbyAt ts k := ⟨_, rfl⟩
  have HFB := Lib.hid hfb
  obtain ⟨res, hres⟩ : ∃ r : Eqn × St, r = (match firstP ts s2 with | some (x, s2) => (⟨nm, 1, x, (P ts .expr s2).1⟩, Tr.need ts (P ts .expr s2).2 [59]) | none => (⟨nm, 0, Ex.zero, (P ts .expr s2).1⟩, Tr.need ts (P ts .expr s2).2 [59]) : Eqn × St) := ⟨_, rfl⟩
  rw [← hres]
  have HRES := Lib.hid hres
  have HK := Lib.hid hk
  clear h45 hrn hfr hs2 hfb hres hk hle2 hok
  go_enter Try.func42, Try.ntmps42
  go_wp2_with fail
  obtain ⟨W0, hW0⟩ : ∃ W0, W0 = w.alloc (.cells zeq 56) := ⟨_, rfl⟩
  unfold zeq at hW0
  rw [← hW0]
  have HB0 : Hid (Below w.heap.size w W0) := by rw [hW0]; exact HW0.out _
  have HZ0 : Hid (W0.heap[w.heap.size]? = some (.cells zeq 56 (0, 0))) := by rw [hW0]; exact heap_alloc_new _ _
  have HK0 : Hid (Took w bp 66 A c ts s W0) := (took_refl HR.out).below HB0.out
  clear hW0
  refine (HC.out _ HK0.out.1).mono ?_
  rintro e w1 ⟨rfl, hk⟩
  have HY2 := Lib.hid (hk.row HZ0.out (by omega))
  have HK3 := Lib.hid (HK0.out.trans hk)
  clear HZ0 HK0
  clear hk
  go_wp2_with fail
  have hz_HY2 := (Array.getElem?_eq_some_iff.1 HY2.out).1
  obtain ⟨W4, hW⟩ : ∃ W, W = w1.alloc (.cells #[.string ⟨nm.toArray⟩, .int .i64 0, .int .i64 0, .int .i32 0, .string ⟨#[]⟩, .slice none 0 0, .int .i64 0, .int .i32 0, .string ⟨#[]⟩, .slice none 0 0] 56) := ⟨_, rfl⟩
  rw [← hW]
  have hbx : Below w1.heap.size w1 W4 := by rw [hW]; exact (Below.refl _ _).alloc (Nat.le_refl _) _
  have HN4 : Hid (W4.heap[w1.heap.size]? = some (.cells #[.string ⟨nm.toArray⟩, .int .i64 0, .int .i64 0, .int .i32 0, .string ⟨#[]⟩, .slice none 0 0, .int .i64 0, .int .i32 0, .string ⟨#[]⟩, .slice none 0 0] 56 (0, 0))) := by rw [hW]; exact heap_alloc_new _ _
  have hlo4 : w.heap.size < w1.heap.size := (Array.getElem?_eq_some_iff.1 HY2.out).1
  clear hW
  have HY5 := Lib.hid ((hbx.block _ (Array.getElem?_eq_some_iff.1 HY2.out).1).trans HY2.out)
  have HK6 := Lib.hid (HK3.out.below hbx)
  clear HY2 HK3
  clear hbx
  clear hfl
  refine (HN.out _ HK6.out.1).mono ?_
  rintro e w7 ⟨rfl, hk⟩
  have HY8 := Lib.hid (hk.row HY5.out (by omega))
  have HY9 := Lib.hid (hk.row HN4.out (by omega))
  have HK10 := Lib.hid (HK6.out.trans hk)
  clear HY5 HN4 HK6
  clear hk
  go_wp2_with fail
  refine (HT.out _ HK10.out.1).mono ?_
  rintro e w11 ⟨rfl, hk⟩
  have HY12 := Lib.hid (hk.row HY8.out (by omega))
  have HY13 := Lib.hid (hk.row HY9.out (by omega))
  have HK14 := Lib.hid (HK10.out.trans hk)
  clear HY8 HY9 HK10
  clear hk
  have HRW := Lib.hid HK14.out.1
  obtain ⟨q0, q1, q2, q3, q4, q5⟩ := row6 HK14.out.1
  rw [hb] at q2
  go_wp2_with fail
  clear q0 q1 q2 q3 q4 q5 HRW
  refine (HIS.out _ HK14.out.1).mono ?_
  rintro e wi ⟨rfl, hbi⟩
  have HY15 := Lib.hid ((hbi.block _ (Array.getElem?_eq_some_iff.1 HY12.out).1).trans HY12.out)
  have HY16 := Lib.hid ((hbi.block _ (Array.getElem?_eq_some_iff.1 HY13.out).1).trans HY13.out)
  have HK17 := Lib.hid (HK14.out.below hbi)
  clear HY12 HY13 HK14
  clear hbi
  have HRW := Lib.hid HK17.out.1
  have hle2 := HRW.out.le
  go_upto_region 9 with (fail)
  go_cut [66] (fun v wx => v = .bool fb ∧ ∃ m, wx = wi.drewN m)
  case first =>
    obtain ⟨q0, q1, q2, q3, q4, q5⟩ := row6 HRW.out
    by_cases hkl : k < ts.length
    · have hd : decide ((k : Int) < (ts.length : Int)) = true := decide_eq_true (by omega)
      have hr0 : (0 : Int) ≤ k := by omega
      have hr1 : (k : Int) < (ts.length : Int) := by omega
      obtain ⟨b, off, rfl, t0, t1, t2, t3⟩ := HRW.out.toks k hkl
      have hfb2 : fb = ((ts[k]'hkl).kind == 3 && (ts[k]'hkl).text == wFby) := by rw [HFB.out]; unfold fbyAt; rw [List.getElem?_eq_getElem hkl]
      generalize ts[k]'hkl = t at *
      obtain ⟨kq, tq, nq2, pq⟩ := t
      dsimp only at *
      clear t2 t3
      rcases h3 : (kq == 3) with _ | _
      · rw [h3, Bool.false_and] at hfb2
        subst hfb2
        clear t1
        go_quiet (fail)
        go_wp2_with fail
        go_meet
        case rel => exact ⟨by first | rfl | trivial, _, rfl⟩
      · rw [h3, Bool.true_and] at hfb2
        unfold wFby at hfb2
        rcases h4 : (tq == [102, 98, 121]) with _ | _
        all_goals
          rw [h4] at hfb2
          subst hfb2
          go_quiet (fail)
          go_wp2_with fail
          go_meet
          case rel => exact ⟨by first | rfl | trivial, _, rfl⟩
    · have hd : decide ((k : Int) < (ts.length : Int)) = false := decide_eq_false (by omega)
      have hfb2 : fb = false := by rw [HFB.out]; unfold fbyAt; rw [List.getElem?_eq_none (by omega)]
      subst hfb2
      go_quiet (fail)
      go_wp2_with fail
      go_meet
      case rel => exact ⟨by first | rfl | trivial, _, rfl⟩
  case rest =>
    rename World => W9
    obtain ⟨hv, m, hm⟩ := hcut
    subst hv
    have hbx : Below wi.heap.size wi W9 := by rw [hm]; exact below_drewN (Below.refl _ _) _
    clear hm HRW
    have HY18 := Lib.hid ((hbx.block _ (Array.getElem?_eq_some_iff.1 HY15.out).1).trans HY15.out)
    have HY19 := Lib.hid ((hbx.block _ (Array.getElem?_eq_some_iff.1 HY16.out).1).trans HY16.out)
    have HK20 := Lib.hid (HK17.out.below hbx)
    clear HY15 HY16 HK17
    clear hbx
    have hz_HY18 := (Array.getElem?_eq_some_iff.1 HY18.out).1
    have hz_HY19 := (Array.getElem?_eq_some_iff.1 HY19.out).1
    rcases hfb3 : fb with _ | _
    · subst hfb3
      have HFN : Hid (firstP ts s2 = none) := by unfold RowKit.Hid; rw [HFR.out, ← HFB.out]; rfl
      have hres := HRES.out
      rw [HFN.out] at hres
      dsimp only at hres
      clear HFR HFN HRES
      have HE := Lib.hid (HPE.out s2)
      generalize P ts .expr s2 = q at *
      obtain ⟨x, s3⟩ := q
      dsimp only at *
      have HM := Lib.hid (HND.out s3 [59])
      generalize Tr.need ts s3 [59] = s4 at *
      subst hres
      have hz_HY18 := (Array.getElem?_eq_some_iff.1 HY18.out).1
      have hz_HY19 := (Array.getElem?_eq_some_iff.1 HY19.out).1
      go_wp2_with fail
      have hzz21 := (Array.getElem?_eq_some_iff.1 HY18.out).1
      have hzHY19_21 := (Array.getElem?_eq_some_iff.1 HY19.out).1
      refine (HE.out _ HK20.out.1).mono ?_
      rintro e w21 ⟨Ax, cx, rfl, hat, hk⟩
      have HY22 := Lib.hid (hk.row HY18.out (by omega))
      have HY23 := Lib.hid (hk.row HY19.out (by omega))
      have HK24 := Lib.hid (HK20.out.trans hk)
      clear HY18 HY19 HK20
      have HX25 := Lib.hid (hat.base (B' := fun b => w1.heap.size < b) (fun b hb hl => Nat.lt_of_lt_of_le hzHY19_21 hb))
      clear hat hk
      unfold exAgg
      dsimp only
      obtain ⟨⟨c1, c2, c3, c4, c5, c6, c7, c8, c9⟩, g1, g2, g3, g4, g5, g6, g7, g8, g9⟩ := row10 HY23.out
      go_upto_region 17 with (fail)
      obtain ⟨V26, hV⟩ : ∃ W, W = (((w21.setCell ⟨w1.heap.size, 6, none⟩ (.int .i64 x.kind)).setCell ⟨w1.heap.size, 7, none⟩ (.int .i32 x.n)).setCell ⟨w1.heap.size, 8, none⟩ (.string ⟨x.name.toArray⟩)).setCell ⟨w1.heap.size, 9, none⟩ (.slice Ax x.sub.length cx) := ⟨_, rfl⟩
      rw [← hV]
      have HY27 : Hid (V26.heap[w.heap.size]? = some (.cells zeq 56 (0, 0))) := by rw [hV]; exact set4_keep HY22.out (by omega) _ _ _ _
      have HY28 : Hid (V26.heap[w1.heap.size]? = some (.cells #[.string ⟨nm.toArray⟩, .int .i64 0, .int .i64 0, .int .i32 0, .string ⟨#[]⟩, .slice none 0 0, .int .i64 x.kind, .int .i32 x.n, .string ⟨x.name.toArray⟩, .slice Ax x.sub.length cx] 56 (0, 0))) := by rw [hV]; exact setE_row10 HY23.out _ _ _ _
      have HX29 : Hid (At V26 (fun b => w1.heap.size < b) x Ax) := by rw [hV]; exact HX25.out.grown (grown_set4' _ _ _ _) (Nat.lt_irrefl _)
      have HK30 : Hid (Took w bp 66 A c ts s3 V26) := by rw [hV]; exact HK24.out.ours (grown_set4' _ _ _ _) HR.out (by omega)
      clear hV HY22 HY23 HX25 HK24
      clear c1 c2 c3 c4 c5 c6 c7 c8 c9 g1 g2 g3 g4 g5 g6 g7 g8 g9
      go_wp2_with fail
      refine (HM.out _ HK30.out.1).mono ?_
      rintro e w31 ⟨rfl, hk⟩
      have HY32 := Lib.hid (hk.row HY27.out (by omega))
      have HY33 := Lib.hid (hk.row HY28.out (by omega))
      have HX34 := Lib.hid (HX29.out.took hk (by omega))
      have HK35 := Lib.hid (HK30.out.trans hk)
      clear HY27 HY28 HX29 HK30
      clear hk
      go_upto_region 18 with (fail)
      go_step
      refine wpList_load_row rfl 56 (.tmp 3) rfl w1.heap.size rfl 56 (eqCells ⟨nm, 0, Ex.zero, x⟩ none 0 Ax cx).toArray (0, 0) _ HY33.out Try.underlying56 rfl infoEq ?_
      refine wpList_store_row rfl 56 (.tmp 2) (.tmp 126) rfl w.heap.size (eqCells ⟨nm, 0, Ex.zero, x⟩ none 0 Ax cx).toArray rfl rfl 56 zeq HY32.out infoEq rfl (all_oneCell_toArray (eqCells_one _ _ _ _ _)) ?_
      have hz := setRow_heap _ _ _ (eqCells ⟨nm, 0, Ex.zero, x⟩ none 0 Ax cx).toArray _ _ HY32.out
      have hX := HX34.out.grown (grown_setRow _ w.heap.size (eqCells ⟨nm, 0, Ex.zero, x⟩ none 0 Ax cx).toArray) (by omega)
      go_wp2_with fail
      exact ret_row 2 rfl rfl rfl hz Try.underlying56 infoEq ⟨_, _, _, _, rfl, at_zero _ _ _, hX.base (fun b hb _ => by omega), HK35.out.setRow HR.out (Nat.le_refl _) _⟩
    · subst hfb3
      have hkl : k < ts.length := fbyAt_lt HFB.out.symm
      have hkp : s2.at_ ≤ k := by have := HK.out; omega
      have HTO := Lib.hid HK20.out.1.toks
      obtain ⟨b, off, hA, -⟩ := HTO.out k hkl
      have HAE := Lib.hid hA
      clear hA
      have hbt : b < W9.heap.size := HK20.out.1.old (fun e => by rw [e] at hkl; exact absurd hkl (Nat.not_lt_zero _)) b off none HAE.out
      have hsl := fun wx => tok_slice_to b off ts.length c k hkl hcap wx
      have hr0 : (0 : Int) ≤ k := by omega
      have hr1 : (k : Int) ≤ (c : Int) := by omega
      have hwk : IntKind.i64.wrap (k : Int) = (k : Int) := by rw [IntKind.wrap_i64]; omega
      have HFR1 : Hid (firstP ts s2 = if (!s9.bad && s9.at_ == k && literal x0) = true then some (x0, ⟨k + 1, false⟩) else none) := by unfold RowKit.Hid; rw [HFR.out, ← HFB.out, Bool.true_and]
      have HRW := Lib.hid HK20.out.1
      obtain ⟨q0, q1, q2, q3, q4, q5⟩ := row6 HRW.out
      rw [HAE.out] at q0
      go_wp2_with fail
      go_still_tail 16, (by kernel_rfl)
      go_upto_region 11 with (fail)
      obtain ⟨W10, hW⟩ : ∃ W, W = (W9.alloc (.cells #[.slice (some ⟨b, off, none⟩) k c, .int .i64 s2.at_, .bool false] 66)).drew := ⟨_, rfl⟩
      rw [← hW]
      have hbx : Below W9.heap.size W9 W10 := by rw [hW]; exact ((Below.refl _ _).alloc (Nat.le_refl _) _).drew
      have HSR : Hid (W10.heap[W9.heap.size]? = some (.cells #[.slice A k c, .int .i64 s2.at_, .bool false] 66 (0, 0))) := by rw [hW, HAE.out]; exact row_drew (heap_alloc_new W9 _)
      clear hW q0 q1 q2 q3 q4 q5
      have HRS : Hid (RowAt W10 W9.heap.size 66 A c (ts.take k) s2) := by
        have h := HRW.out.sub (sp := W9.heap.size) (W := W10) hkp hkl HSR.out (HTO.out.below hbx (.inl (Nat.le_refl _))) (fun b' o p e => by rw [HAE.out] at e; injection e with e; injection e with e1 _ _; omega)
        rw [HS2.out] at h
        exact h
      have HY36 := Lib.hid ((hbx.block _ (Array.getElem?_eq_some_iff.1 HY18.out).1).trans HY18.out)
      have HY37 := Lib.hid ((hbx.block _ (Array.getElem?_eq_some_iff.1 HY19.out).1).trans HY19.out)
      have HK38 := Lib.hid (HK20.out.below hbx)
      clear HY18 HY19 HK20
      have hsz10 := hbx.size
      clear hbx HRW hsl
      have hz_HY36 := (Array.getElem?_eq_some_iff.1 HY36.out).1
      have hz_HY37 := (Array.getElem?_eq_some_iff.1 HY37.out).1
      have hsp : W9.heap.size < W10.heap.size := (Array.getElem?_eq_some_iff.1 HSR.out).1
      go_wp2_with fail
      refine (HRU.out _ _ HRS.out).mono ?_
      rintro e wu ⟨Ay, cy, rfl, hat2, hku⟩
      have HSU := Lib.hid hku.1
      have HY39 := Lib.hid (hku.row HY36.out (by omega))
      have HY40 := Lib.hid (hku.row HY37.out (by omega))
      have HK41 := Lib.hid (HK38.out.ours hku.2 HR.out (by omega))
      clear HY36 HY37 HK38
      have HX0 := Lib.hid (hat2.base (B' := fun b => w1.heap.size < b ∧ b ≠ W9.heap.size) (fun b hb hl => ⟨by omega, by omega⟩))
      clear hat2
      unfold exAgg
      dsimp only
      have hszu := hku.2.size
      clear hku
      have hz_HY39 := (Array.getElem?_eq_some_iff.1 HY39.out).1
      have hz_HY40 := (Array.getElem?_eq_some_iff.1 HY40.out).1
      go_upto_region 12 with (fail)
      obtain ⟨W11, hW⟩ : ∃ W, W = wu.alloc (.cells #[.int .i64 x0.kind, .int .i32 x0.n, .string ⟨x0.name.toArray⟩, .slice Ay x0.sub.length cy] 43) := ⟨_, rfl⟩
      rw [← hW]
      have hbx : Below wu.heap.size wu W11 := by rw [hW]; exact (Below.refl _ _).alloc (Nat.le_refl _) _
      have HXR : Hid (W11.heap[wu.heap.size]? = some (.cells #[.int .i64 x0.kind, .int .i32 x0.n, .string ⟨x0.name.toArray⟩, .slice Ay x0.sub.length cy] 43 (0, 0))) := by rw [hW]; exact heap_alloc_new _ _
      clear hW
      have HX1 := Lib.hid (HX0.out.below hbx (Nat.le_refl _))
      have HS1 := Lib.hid (HSU.out.below hbx (Nat.le_refl _))
      have HY42 := Lib.hid ((hbx.block _ (Array.getElem?_eq_some_iff.1 HY39.out).1).trans HY39.out)
      have HY43 := Lib.hid ((hbx.block _ (Array.getElem?_eq_some_iff.1 HY40.out).1).trans HY40.out)
      have HK44 := Lib.hid (HK41.out.below hbx)
      clear HY39 HY40 HK41
      have hsz11 := hbx.size
      clear hbx HX0 HSU
      have hz_HY42 := (Array.getElem?_eq_some_iff.1 HY42.out).1
      have hz_HY43 := (Array.getElem?_eq_some_iff.1 HY43.out).1
      have hx1 : wu.heap.size < W11.heap.size := (Array.getElem?_eq_some_iff.1 HXR.out).1
      have HRW := Lib.hid HK44.out.1
      obtain ⟨okb, hokb⟩ : ∃ o, o = (!s9.bad && s9.at_ == k && literal x0) := ⟨_, rfl⟩
      have HOK := Lib.hid hokb
      rw [← hokb] at HFR1
      clear hokb
      have HLT := Lib.hid (fun W h => refliteral_any x0 (fun b => w1.heap.size < b ∧ b ≠ W9.heap.size) Ay cy W h HFT.out)
      unfold exAgg at HLT
      go_cut [107] (fun v wx => v = .bool okb ∧ Hid (Below W11.heap.size W11 wx))
      case first =>
        obtain ⟨q0, q1, q2, q3, q4, q5⟩ := row6 HRW.out
        obtain ⟨y0, y1, y2, y3, y4, y5⟩ := row6 HS1.out
        rcases h9 : s9.bad with _ | _
        · rw [h9] at y2
          by_cases ha : s9.at_ = k
          · have hoo : okb = literal x0 := by rw [HOK.out, h9, ha]; simp
            have hbb : ((k : Int) == (k : Int)) = true := beq_self_eq_true _
            rw [ha] at y1
            have HXA := HX1.out
            generalize literal x0 = lt at *
            subst hoo
            have hsr := HS1.out.row
            rw [h9, ha] at hsr
            have HSRW := Lib.hid hsr
            have HRRW := Lib.hid HRW.out.row
            clear hsr
            go_region_held3 (fun W => (W.cell? ⟨W9.heap.size, 1, none⟩ = some (.int .i64 (k : Int)) ∧ W.cell? ⟨W9.heap.size, 2, none⟩ = some (.bool false)) ∧ W.cell? ⟨bp, 1, none⟩ = some (.int .i64 s2.at_) ∧ (W.cell? ⟨wu.heap.size, 0, none⟩ = some (.int .i64 x0.kind) ∧ W.cell? ⟨wu.heap.size, 1, none⟩ = some (.int .i32 x0.n) ∧ W.cell? ⟨wu.heap.size, 2, none⟩ = some (.string ⟨x0.name.toArray⟩) ∧ W.cell? ⟨wu.heap.size, 3, none⟩ = some (.slice Ay x0.sub.length cy)))
              (first | (with_reducible exact ⟨(row3c (row_drew HSRW.out)).2, (row3c (row_drew HRRW.out)).2.1, row4c (row_drew HXR.out)⟩) | (with_reducible exact ⟨(row3c HS9.out).2, (row3c HR9.out).2.1, row4c HM9.out⟩))
              ((go_at_call 73; refine (HLT.out _ (HXA.below (Below.refl _ _).drew (Nat.le_refl _))).mono ?_; rintro e wz ⟨rfl, hbz⟩; have HBZ : Hid (Below W11.heap.size W11 wz) := (Below.refl _ _).drew.trans hbz; have HM9 := Lib.hid ((HBZ.out.block _ (Array.getElem?_eq_some_iff.1 HXR.out).1).trans HXR.out); have HS9 := Lib.hid ((HBZ.out.block _ (Array.getElem?_eq_some_iff.1 HSRW.out).1).trans HSRW.out); have HR9 := Lib.hid ((HBZ.out.block _ (Array.getElem?_eq_some_iff.1 HRRW.out).1).trans HRRW.out)))
            all_goals
              go_wp2_with fail
              go_meet
              case rel => exact ⟨by first | rfl | trivial, HBZ.out⟩
          · have hoo : okb = false := by rw [HOK.out]; simp [ha]
            have hbb : ((s9.at_ : Int) == (k : Int)) = false := by simpa using (fun e => ha (by omega) : ¬ (s9.at_ : Int) = k)
            subst hoo
            go_quiet (fail)
            go_wp2_with fail
            go_meet
            case rel => exact ⟨by first | rfl | trivial, below_drewN (Below.refl _ _) _⟩
        · rw [h9] at y2
          have hoo : okb = false := by rw [HOK.out, h9]; rfl
          subst hoo
          clear h9
          go_quiet (fail)
          go_wp2_with fail
          go_meet
          case rel => exact ⟨by first | rfl | trivial, below_drewN (Below.refl _ _) _⟩
      case rest =>
        obtain ⟨hv, HBC⟩ := hcut
        subst hv
        have HY45 := Lib.hid ((HBC.out.block _ (Array.getElem?_eq_some_iff.1 HY42.out).1).trans HY42.out)
        have HY46 := Lib.hid ((HBC.out.block _ (Array.getElem?_eq_some_iff.1 HY43.out).1).trans HY43.out)
        have HK47 := Lib.hid (HK44.out.below HBC.out)
        clear HY42 HY43 HK44
        have HXC := Lib.hid ((HBC.out.block _ (Array.getElem?_eq_some_iff.1 HXR.out).1).trans HXR.out)
        have HXA := Lib.hid ((HX1.out.below HBC.out (Nat.le_refl _)).base (B' := fun b => w1.heap.size < b) (fun b hb _ => hb.1))
        have hszc := HBC.out.size
        clear HBC HXR HX1 HS1 HRW HSR HRS HLT
        have hz_HY45 := (Array.getElem?_eq_some_iff.1 HY45.out).1
        have hz_HY46 := (Array.getElem?_eq_some_iff.1 HY46.out).1
        rcases hoo : okb with _ | _
        · subst hoo
          have HFN : Hid (firstP ts s2 = none) := by unfold RowKit.Hid; rw [HFR1.out]; rfl
          clear HFR1
          have hres := HRES.out
          rw [HFN.out] at hres
          dsimp only at hres
          clear HFR HFN HRES
          have HE := Lib.hid (HPE.out s2)
          generalize P ts .expr s2 = q at *
          obtain ⟨x, s3⟩ := q
          dsimp only at *
          have HM := Lib.hid (HND.out s3 [59])
          generalize Tr.need ts s3 [59] = s4 at *
          subst hres
          have hz_HY45 := (Array.getElem?_eq_some_iff.1 HY45.out).1
          have hz_HY46 := (Array.getElem?_eq_some_iff.1 HY46.out).1
          go_wp2_with fail
          have hzz48 := (Array.getElem?_eq_some_iff.1 HY45.out).1
          have hzHY46_48 := (Array.getElem?_eq_some_iff.1 HY46.out).1
          refine (HE.out _ HK47.out.1).mono ?_
          rintro e w48 ⟨Ax, cx, rfl, hat, hk⟩
          have HY49 := Lib.hid (hk.row HY45.out (by omega))
          have HY50 := Lib.hid (hk.row HY46.out (by omega))
          have HK51 := Lib.hid (HK47.out.trans hk)
          clear HY45 HY46 HK47
          have HX52 := Lib.hid (hat.base (B' := fun b => w1.heap.size < b) (fun b hb hl => Nat.lt_of_lt_of_le hzHY46_48 hb))
          clear hat hk
          unfold exAgg
          dsimp only
          obtain ⟨⟨c1, c2, c3, c4, c5, c6, c7, c8, c9⟩, g1, g2, g3, g4, g5, g6, g7, g8, g9⟩ := row10 HY50.out
          go_upto_region 17 with (fail)
          obtain ⟨V53, hV⟩ : ∃ W, W = (((w48.setCell ⟨w1.heap.size, 6, none⟩ (.int .i64 x.kind)).setCell ⟨w1.heap.size, 7, none⟩ (.int .i32 x.n)).setCell ⟨w1.heap.size, 8, none⟩ (.string ⟨x.name.toArray⟩)).setCell ⟨w1.heap.size, 9, none⟩ (.slice Ax x.sub.length cx) := ⟨_, rfl⟩
          rw [← hV]
          have HY54 : Hid (V53.heap[w.heap.size]? = some (.cells zeq 56 (0, 0))) := by rw [hV]; exact set4_keep HY49.out (by omega) _ _ _ _
          have HY55 : Hid (V53.heap[w1.heap.size]? = some (.cells #[.string ⟨nm.toArray⟩, .int .i64 0, .int .i64 0, .int .i32 0, .string ⟨#[]⟩, .slice none 0 0, .int .i64 x.kind, .int .i32 x.n, .string ⟨x.name.toArray⟩, .slice Ax x.sub.length cx] 56 (0, 0))) := by rw [hV]; exact setE_row10 HY50.out _ _ _ _
          have HX56 : Hid (At V53 (fun b => w1.heap.size < b) x Ax) := by rw [hV]; exact HX52.out.grown (grown_set4' _ _ _ _) (Nat.lt_irrefl _)
          have HK57 : Hid (Took w bp 66 A c ts s3 V53) := by rw [hV]; exact HK51.out.ours (grown_set4' _ _ _ _) HR.out (by omega)
          clear hV HY49 HY50 HX52 HK51
          clear c1 c2 c3 c4 c5 c6 c7 c8 c9 g1 g2 g3 g4 g5 g6 g7 g8 g9
          go_wp2_with fail
          refine (HM.out _ HK57.out.1).mono ?_
          rintro e w58 ⟨rfl, hk⟩
          have HY59 := Lib.hid (hk.row HY54.out (by omega))
          have HY60 := Lib.hid (hk.row HY55.out (by omega))
          have HX61 := Lib.hid (HX56.out.took hk (by omega))
          have HK62 := Lib.hid (HK57.out.trans hk)
          clear HY54 HY55 HX56 HK57
          clear hk
          go_upto_region 18 with (fail)
          go_step
          refine wpList_load_row rfl 56 (.tmp 3) rfl w1.heap.size rfl 56 (eqCells ⟨nm, 0, Ex.zero, x⟩ none 0 Ax cx).toArray (0, 0) _ HY60.out Try.underlying56 rfl infoEq ?_
          refine wpList_store_row rfl 56 (.tmp 2) (.tmp 126) rfl w.heap.size (eqCells ⟨nm, 0, Ex.zero, x⟩ none 0 Ax cx).toArray rfl rfl 56 zeq HY59.out infoEq rfl (all_oneCell_toArray (eqCells_one _ _ _ _ _)) ?_
          have hz := setRow_heap _ _ _ (eqCells ⟨nm, 0, Ex.zero, x⟩ none 0 Ax cx).toArray _ _ HY59.out
          have hX := HX61.out.grown (grown_setRow _ w.heap.size (eqCells ⟨nm, 0, Ex.zero, x⟩ none 0 Ax cx).toArray) (by omega)
          go_wp2_with fail
          exact ret_row 2 rfl rfl rfl hz Try.underlying56 infoEq ⟨_, _, _, _, rfl, at_zero _ _ _, hX.base (fun b hb _ => by omega), HK62.out.setRow HR.out (Nat.le_refl _) _⟩
        · subst hoo
          have HFN : Hid (firstP ts s2 = some (x0, ⟨k + 1, false⟩)) := by unfold RowKit.Hid; rw [HFR1.out]; rfl
          clear HFR1
          have hres := HRES.out
          rw [HFN.out] at hres
          dsimp only at hres
          clear HFR HFN HRES
          have HE := Lib.hid (HPE.out ⟨k + 1, false⟩)
          generalize P ts .expr ⟨k + 1, false⟩ = q at *
          obtain ⟨x, s3⟩ := q
          dsimp only at *
          have HM := Lib.hid (HND.out s3 [59])
          generalize Tr.need ts s3 [59] = s4 at *
          subst hres
          have hz_HY45 := (Array.getElem?_eq_some_iff.1 HY45.out).1
          have hz_HY46 := (Array.getElem?_eq_some_iff.1 HY46.out).1
          have hz_HXC := (Array.getElem?_eq_some_iff.1 HXC.out).1
          obtain ⟨⟨c1, c2, c3, c4, c5, c6, c7, c8, c9⟩, g1, g2, g3, g4, g5, g6, g7, g8, g9⟩ := row10 HY46.out
          go_upto_region 14 with (fail)
          obtain ⟨V63, hV⟩ : ∃ W, W = wc.setCell ⟨w1.heap.size, 1, none⟩ (.int .i64 1) := ⟨_, rfl⟩
          rw [← hV]
          have HY64 : Hid (V63.heap[w.heap.size]? = some (.cells zeq 56 (0, 0))) := by rw [hV]; exact set1_keep HY45.out (by omega) _
          have HY65 : Hid (V63.heap[w1.heap.size]? = some (.cells #[.string ⟨nm.toArray⟩, .int .i64 1, .int .i64 0, .int .i32 0, .string ⟨#[]⟩, .slice none 0 0, .int .i64 0, .int .i32 0, .string ⟨#[]⟩, .slice none 0 0] 56 (0, 0))) := by rw [hV]; exact set1_row10 HY46.out _
          have HY66 : Hid (V63.heap[wu.heap.size]? = some (.cells #[.int .i64 x0.kind, .int .i32 x0.n, .string ⟨x0.name.toArray⟩, .slice Ay x0.sub.length cy] 43 (0, 0))) := by rw [hV]; exact set1_keep HXC.out (by omega) _
          have HX67 : Hid (At V63 (fun b => w1.heap.size < b) x0 Ay) := by rw [hV]; exact HXA.out.grown (grown_setCell _ _ _ _) (Nat.lt_irrefl _)
          have HK68 : Hid (Took w bp 66 A c ts s2 V63) := by rw [hV]; exact HK47.out.ours (grown_setCell _ _ _ _) HR.out (by omega)
          clear hV HY45 HY46 HXC HXA HK47
          clear c1 c2 c3 c4 c5 c6 c7 c8 c9 g1 g2 g3 g4 g5 g6 g7 g8 g9
          obtain ⟨⟨c1, c2, c3, c4, c5, c6, c7, c8, c9⟩, g1, g2, g3, g4, g5, g6, g7, g8, g9⟩ := row10 HY65.out
          obtain ⟨m0, m1, m2, m3, _⟩ := row4 HY66.out
          go_upto_region 15 with (fail)
          obtain ⟨V69, hV⟩ : ∃ W, W = (((V63.setCell ⟨w1.heap.size, 2, none⟩ (.int .i64 x0.kind)).setCell ⟨w1.heap.size, 3, none⟩ (.int .i32 x0.n)).setCell ⟨w1.heap.size, 4, none⟩ (.string ⟨x0.name.toArray⟩)).setCell ⟨w1.heap.size, 5, none⟩ (.slice Ay x0.sub.length cy) := ⟨_, rfl⟩
          rw [← hV]
          have HY70 : Hid (V69.heap[w.heap.size]? = some (.cells zeq 56 (0, 0))) := by rw [hV]; exact set4_keep HY64.out (by omega) _ _ _ _
          have HY71 : Hid (V69.heap[w1.heap.size]? = some (.cells #[.string ⟨nm.toArray⟩, .int .i64 1, .int .i64 x0.kind, .int .i32 x0.n, .string ⟨x0.name.toArray⟩, .slice Ay x0.sub.length cy, .int .i64 0, .int .i32 0, .string ⟨#[]⟩, .slice none 0 0] 56 (0, 0))) := by rw [hV]; exact setF_row10 HY65.out _ _ _ _
          have HY72 : Hid (V69.heap[wu.heap.size]? = some (.cells #[.int .i64 x0.kind, .int .i32 x0.n, .string ⟨x0.name.toArray⟩, .slice Ay x0.sub.length cy] 43 (0, 0))) := by rw [hV]; exact set4_keep HY66.out (by omega) _ _ _ _
          have HX73 : Hid (At V69 (fun b => w1.heap.size < b) x0 Ay) := by rw [hV]; exact HX67.out.grown (grown_set4' _ _ _ _) (Nat.lt_irrefl _)
          have HK74 : Hid (Took w bp 66 A c ts s2 V69) := by rw [hV]; exact HK68.out.ours (grown_set4' _ _ _ _) HR.out (by omega)
          clear hV HY64 HY65 HY66 HX67 HK68
          clear c1 c2 c3 c4 c5 c6 c7 c8 c9 g1 g2 g3 g4 g5 g6 g7 g8 g9
          clear m0 m1 m2 m3
          obtain ⟨q0, q1, q2, q3, q4, q5⟩ := row6 HK74.out.1
          go_upto_region 16 with (fail)
          obtain ⟨V75, hV⟩ : ∃ W, W = V69.setCell ⟨bp, 1, none⟩ (.int .i64 ((k : Int) + 1)) := ⟨_, rfl⟩
          rw [← hV]
          have HY76 : Hid (V75.heap[w.heap.size]? = some (.cells zeq 56 (0, 0))) := by rw [hV]; exact set1_keep HY70.out (by omega) _
          have HY77 : Hid (V75.heap[w1.heap.size]? = some (.cells #[.string ⟨nm.toArray⟩, .int .i64 1, .int .i64 x0.kind, .int .i32 x0.n, .string ⟨x0.name.toArray⟩, .slice Ay x0.sub.length cy, .int .i64 0, .int .i32 0, .string ⟨#[]⟩, .slice none 0 0] 56 (0, 0))) := by rw [hV]; exact set1_keep HY71.out (by omega) _
          have HY78 : Hid (V75.heap[wu.heap.size]? = some (.cells #[.int .i64 x0.kind, .int .i32 x0.n, .string ⟨x0.name.toArray⟩, .slice Ay x0.sub.length cy] 43 (0, 0))) := by rw [hV]; exact set1_keep HY72.out (by omega) _
          have HX79 : Hid (At V75 (fun b => w1.heap.size < b) x0 Ay) := by rw [hV]; exact HX73.out.grown (grown_setCell _ _ _ _) (by omega)
          have HK80 : Hid (Took w bp 66 A c ts ⟨k + 1, false⟩ V75) := by rw [hV]; exact HK74.out.goto hb hkl
          clear hV HY70 HY71 HY72 HX73 HK74
          clear q0 q1 q2 q3 q4 q5
          clear HY78
          have hz_HY76 := (Array.getElem?_eq_some_iff.1 HY76.out).1
          have hz_HY77 := (Array.getElem?_eq_some_iff.1 HY77.out).1
          go_wp2_with fail
          have hzz81 := (Array.getElem?_eq_some_iff.1 HY76.out).1
          have hzHY77_81 := (Array.getElem?_eq_some_iff.1 HY77.out).1
          refine (HE.out _ HK80.out.1).mono ?_
          rintro e w81 ⟨Ax, cx, rfl, hat, hk⟩
          have HY82 := Lib.hid (hk.row HY76.out (by omega))
          have HY83 := Lib.hid (hk.row HY77.out (by omega))
          have HX84 := Lib.hid (HX79.out.took hk (by omega))
          have HK85 := Lib.hid (HK80.out.trans hk)
          clear HY76 HY77 HX79 HK80
          have HX86 := Lib.hid (hat.base (B' := fun b => w1.heap.size < b) (fun b hb hl => Nat.lt_of_lt_of_le hzHY77_81 hb))
          clear hat hk
          unfold exAgg
          dsimp only
          obtain ⟨⟨c1, c2, c3, c4, c5, c6, c7, c8, c9⟩, g1, g2, g3, g4, g5, g6, g7, g8, g9⟩ := row10 HY83.out
          go_upto_region 17 with (fail)
          obtain ⟨V87, hV⟩ : ∃ W, W = (((w81.setCell ⟨w1.heap.size, 6, none⟩ (.int .i64 x.kind)).setCell ⟨w1.heap.size, 7, none⟩ (.int .i32 x.n)).setCell ⟨w1.heap.size, 8, none⟩ (.string ⟨x.name.toArray⟩)).setCell ⟨w1.heap.size, 9, none⟩ (.slice Ax x.sub.length cx) := ⟨_, rfl⟩
          rw [← hV]
          have HY88 : Hid (V87.heap[w.heap.size]? = some (.cells zeq 56 (0, 0))) := by rw [hV]; exact set4_keep HY82.out (by omega) _ _ _ _
          have HY89 : Hid (V87.heap[w1.heap.size]? = some (.cells #[.string ⟨nm.toArray⟩, .int .i64 1, .int .i64 x0.kind, .int .i32 x0.n, .string ⟨x0.name.toArray⟩, .slice Ay x0.sub.length cy, .int .i64 x.kind, .int .i32 x.n, .string ⟨x.name.toArray⟩, .slice Ax x.sub.length cx] 56 (0, 0))) := by rw [hV]; exact setE_row10 HY83.out _ _ _ _
          have HX90 : Hid (At V87 (fun b => w1.heap.size < b) x0 Ay) := by rw [hV]; exact HX84.out.grown (grown_set4' _ _ _ _) (Nat.lt_irrefl _)
          have HX91 : Hid (At V87 (fun b => w1.heap.size < b) x Ax) := by rw [hV]; exact HX86.out.grown (grown_set4' _ _ _ _) (Nat.lt_irrefl _)
          have HK92 : Hid (Took w bp 66 A c ts s3 V87) := by rw [hV]; exact HK85.out.ours (grown_set4' _ _ _ _) HR.out (by omega)
          clear hV HY82 HY83 HX84 HX86 HK85
          clear c1 c2 c3 c4 c5 c6 c7 c8 c9 g1 g2 g3 g4 g5 g6 g7 g8 g9
          go_wp2_with fail
          refine (HM.out _ HK92.out.1).mono ?_
          rintro e w93 ⟨rfl, hk⟩
          have HY94 := Lib.hid (hk.row HY88.out (by omega))
          have HY95 := Lib.hid (hk.row HY89.out (by omega))
          have HX96 := Lib.hid (HX90.out.took hk (by omega))
          have HX97 := Lib.hid (HX91.out.took hk (by omega))
          have HK98 := Lib.hid (HK92.out.trans hk)
          clear HY88 HY89 HX90 HX91 HK92
          clear hk
          go_upto_region 18 with (fail)
          go_step
          refine wpList_load_row rfl 56 (.tmp 3) rfl w1.heap.size rfl 56 (eqCells ⟨nm, 1, x0, x⟩ Ay cy Ax cx).toArray (0, 0) _ HY95.out Try.underlying56 rfl infoEq ?_
          refine wpList_store_row rfl 56 (.tmp 2) (.tmp 126) rfl w.heap.size (eqCells ⟨nm, 1, x0, x⟩ Ay cy Ax cx).toArray rfl rfl 56 zeq HY94.out infoEq rfl (all_oneCell_toArray (eqCells_one _ _ _ _ _)) ?_
          have hz := setRow_heap _ _ _ (eqCells ⟨nm, 1, x0, x⟩ Ay cy Ax cx).toArray _ _ HY94.out
          have hX := HX97.out.grown (grown_setRow _ w.heap.size (eqCells ⟨nm, 1, x0, x⟩ Ay cy Ax cx).toArray) (by omega)
          go_wp2_with fail
          exact ret_row 2 rfl rfl rfl hz Try.underlying56 infoEq ⟨_, _, _, _, rfl, (HX96.out.grown (grown_setRow _ w.heap.size _) (by omega)).base (fun b hb _ => by omega), hX.base (fun b hb _ => by omega), HK98.out.setRow HR.out (Nat.le_refl _) _⟩
end Go.Proofs.Ytilkilffkjhhbaa
