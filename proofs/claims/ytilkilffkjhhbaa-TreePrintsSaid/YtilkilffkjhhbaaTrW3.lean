/-
  The reference's Whole.
-/
import Derived.Test.YtilkilffkjhhbaaTrW2
import Derived.Test.YtilkilffkjhhbaaTrLn
namespace Go.Proofs.Ytilkilffkjhhbaa
set_option maxRecDepth 20000
set_option linter.unusedVariables false
open Go.RowKit Tr Mem

set_option maxRecDepth 100000 in
set_option maxHeartbeats 16000000 in
theorem refwhole_any (p : Pg) (L : Lie) (K : Nat → Prop) (w : World) (hA : PgAt w K p L) (hf : PgFit p) :
    Calls Try.prog 50 #[pgAgg p L] w fun e w' => e = .returned (.bool (whole p)) ∧ Below w.heap.size w w' := by
  obtain ⟨r, hr⟩ : ∃ r, r = whole p := ⟨_, rfl⟩
  rw [← hr]
  unfold whole at hr
  obtain ⟨pn, pi, po, pl, pe⟩ := p
  obtain ⟨ai, ci, ao, co, al, cl, ae, ce⟩ := L
  obtain ⟨hai, hao, hal, hae⟩ := hA
  obtain ⟨hfn, ⟨hni, hfi⟩, ⟨hno, hfo⟩, ⟨hnl, hfl⟩, ⟨hne, hfe⟩⟩ := hf
  dsimp only at *
  have HN := Lib.hid (fun W => refname pn hfn W)
  have HNM := Lib.hid (fun m h W => refname m h W)
  have HV1 := Lib.hid (fun W h => refvars_any pi false ai ci W h hni hfi)
  have HV2 := Lib.hid (fun W h => refvars_any po false ao co W h hno hfo)
  have HV3 := Lib.hid (fun W h => refvars_any pl true al cl W h hnl hfl)
  have HRI := Lib.hid (fun x A cap W h h2 => refright_any x K A cap W h h2)
  have HLI := Lib.hid (fun x A cap W h h2 => refliteral_any x K A cap W h h2)
  have HSE := Lib.hid (fun x A cap W h h2 => refSameExpr_any K (fun _ => True) (size x) x Ex.zero (Nat.le_refl _) A none cap 0 W h (at_zero _ _ _) h2 fit_zero)
  unfold maxLen at hne
  have HFE := Lib.hid hfe
  have HAI := Lib.hid hai
  have HAO := Lib.hid hao
  have HAL := Lib.hid hal
  have HAE := Lib.hid hae
  generalize hbn : Lx.isName pn = bn at *
  generalize pi.all (varOk false) = b1 at *
  generalize po.all (varOk false) = b2 at *
  generalize pl.all (varOk true) = b3 at *
  have HR := Lib.hid hr
  clear hfi hfo hfl hfe hai hao hal hae hfn hbn hr
  unfold pgAgg
  dsimp only
  go_enter Try.func50, Try.ntmps50
  go_upto_region 1 with (fail)
  obtain ⟨W0, hW0⟩ : ∃ W0, W0 = w.alloc (.cells #[.string ⟨pn.toArray⟩, .slice ai pi.length ci, .slice ao po.length co, .slice al pl.length cl, .slice ae pe.length ce] 26) := ⟨_, rfl⟩
  rw [← hW0]
  obtain ⟨hp0, hb0, hs0⟩ := row_new hW0
  have HP0 := Lib.hid hp0
  have HB0 := Lib.hid hb0
  clear hW0 hp0 hb0
  have n0 : W0.cell? ⟨w.heap.size, 0, none⟩ = some (.string ⟨pn.toArray⟩) := cell_of_row W0 w.heap.size 0 _ _ _ HP0.out
  go_wp2_with fail
  refine (HN.out _).mono ?_
  rintro e v0 ⟨rfl, hb0⟩
  have hw0 : Below W0.heap.size W0 v0 := hb0
  have hp0 := (hw0.block _ hs0).trans HP0.out
  clear n0
  obtain ⟨⟨n1, n2, n3, n4⟩, -⟩ := row5 hp0
  clear hp0 hb0
  rcases bn with _ | _
  · have HRF : Hid (r = false) := by unfold RowKit.Hid; rw [HR.out]; simp
    go_wp2_with fail
    go_ret
    exact ⟨by rw [HRF.out]; rfl, HB0.out.trans (hw0.mono HB0.out.size)⟩
  go_wp2_with fail
  refine (HV1.out _ (HAI.out.below (HB0.out.trans (hw0.mono HB0.out.size)))).mono ?_
  rintro e v1 ⟨rfl, hb1⟩
  have hw1 : Below W0.heap.size W0 v1 := hw0.trans (hb1.mono hw0.size)
  have hp1 := (hw1.block _ hs0).trans HP0.out
  clear n1 n2 n3 n4
  obtain ⟨⟨n1, n2, n3, n4⟩, -⟩ := row5 hp1
  clear hp1 hb1
  rcases b1 with _ | _
  · have HRF : Hid (r = false) := by unfold RowKit.Hid; rw [HR.out]; simp
    go_wp2_with fail
    go_ret
    exact ⟨by rw [HRF.out]; rfl, HB0.out.trans (hw1.mono HB0.out.size)⟩
  go_wp2_with fail
  refine (HV2.out _ (HAO.out.below (HB0.out.trans (hw1.mono HB0.out.size)))).mono ?_
  rintro e v2 ⟨rfl, hb2⟩
  have hw2 : Below W0.heap.size W0 v2 := hw1.trans (hb2.mono hw1.size)
  have hp2 := (hw2.block _ hs0).trans HP0.out
  clear n1 n2 n3 n4
  obtain ⟨⟨n1, n2, n3, n4⟩, -⟩ := row5 hp2
  clear hp2 hb2
  rcases b2 with _ | _
  · have HRF : Hid (r = false) := by unfold RowKit.Hid; rw [HR.out]; simp
    go_wp2_with fail
    go_ret
    exact ⟨by rw [HRF.out]; rfl, HB0.out.trans (hw2.mono HB0.out.size)⟩
  go_wp2_with fail
  refine (HV3.out _ (HAL.out.below (HB0.out.trans (hw2.mono HB0.out.size)))).mono ?_
  rintro e v3 ⟨rfl, hb3⟩
  have hw3 : Below W0.heap.size W0 v3 := hw2.trans (hb3.mono hw2.size)
  have hp3 := (hw3.block _ hs0).trans HP0.out
  clear n1 n2 n3 n4
  obtain ⟨⟨n1, n2, n3, n4⟩, -⟩ := row5 hp3
  clear hp3 hb3
  rcases b3 with _ | _
  · have HRF : Hid (r = false) := by unfold RowKit.Hid; rw [HR.out]; simp
    go_wp2_with fail
    go_ret
    exact ⟨by rw [HRF.out]; rfl, HB0.out.trans (hw3.mono HB0.out.size)⟩
  go_wp2_with fail
  have HJ0 : Hid (r = (pe.drop 0).all eqOk) := by unfold RowKit.Hid; rw [HR.out, List.drop_zero]; simp
  clear HR n1 n2 n3 n4
  go_loopw [3] (fun i wr => ∃ j : Nat, j ≤ pe.length ∧ i = .int .i64 j ∧ Hid (r = (pe.drop j).all eqOk) ∧ Below W0.heap.size W0 wr) (fun i _ => pe.length - (intOf i).toNat)
  case atStart => exact ⟨0, Nat.zero_le _, rfl, HJ0, hw3⟩
  case round =>
    clear HJ0 hw0 hw1 hw2 hw3
    obtain ⟨j, hj, rfl, HJ, hb⟩ := hrel
    have hp1 := (hb.block _ hs0).trans HP0.out
    obtain ⟨⟨n1, n2, n3, n4⟩, -⟩ := row5 hp1
    clear n1 n2 n3 hp1
    by_cases hlt : j < pe.length
    · obtain ⟨b, off, AF, cF, AE, cE, rfl, hbl, hx1, hx2, c0, c1, c2, c3, c4, c5, c6, c7, c8, c9⟩ := HAE.out.in_ (HB0.out.trans (hb.mono HB0.out.size)) j hlt
      have hff := HFE.out _ (List.getElem_mem hlt)
      have hj2 := HJ.out
      rw [all_drop hlt] at hj2
      generalize pe[j]'hlt = q at *
      have HNQ := Lib.hid (fun W => HNM.out q.name hff.1 W)
      have HRE := Lib.hid (fun W h => HRI.out q.e AE cE W h hff.2.2)
      have HLF := Lib.hid (fun W h => HLI.out q.first AF cF W h hff.2.1)
      have HSF := Lib.hid (fun W h => HSE.out q.first AF cF W h hff.2.1)
      unfold exAgg at HRE HLF HSF
      unfold Ex.zero at HSF
      dsimp only [Ex.kind, Ex.n, Ex.name, Ex.sub] at HSF
      have heq : eqOk q = (Lx.isName q.name && right q.e == 0 && (if q.delay = 1 then literal q.first else (q.delay == 0 || q.delay == 2) && same q.first Ex.zero)) := rfl
      rw [heq] at hj2
      have hzz : same q.first (.mk 0 0 [] []) = same q.first Ex.zero := rfl
      rw [hzz] at HSF
      generalize Lx.isName q.name = bnm at *
      generalize right q.e = rt at *
      generalize literal q.first = lt at *
      generalize same q.first Ex.zero = sm at *
      generalize q.delay = d at *
      have HEQ := Lib.hid hj2
      have HX1 := Lib.hid hx1
      have HX2 := Lib.hid hx2
      clear heq hzz hj2 HJ hx1 hx2 hff
      go_upto_region 7 with (fail)
      obtain ⟨W6, hW6⟩ : ∃ W, W = wr.alloc (.cells #[.string ⟨q.name.toArray⟩, .int .i64 d, .int .i64 q.first.kind, .int .i32 q.first.n, .string ⟨q.first.name.toArray⟩, .slice AF q.first.sub.length cF, .int .i64 q.e.kind, .int .i32 q.e.n, .string ⟨q.e.name.toArray⟩, .slice AE q.e.sub.length cE] 56) := ⟨_, rfl⟩
      rw [← hW6]
      obtain ⟨hq6, hb6, hs6⟩ := row_new hW6
      have HQ6 := Lib.hid hq6
      have HB6 := Lib.hid (hb.trans (hb6.mono hb.size))
      have HX16 := Lib.hid (HX1.out.below hb6 (Nat.le_refl _))
      have HX26 := Lib.hid (HX2.out.below hb6 (Nat.le_refl _))
      clear hW6 hq6 hb6 hb c0 c1 c2 c3 c4 c5 c6 c7 c8 c9 HX1 HX2 n4
      obtain ⟨m0, m1, m2, m3, m4, m5, m6, m7, m8, m9⟩ := row10e HQ6.out
      go_wp2_with fail
      refine (HSF.out _ HX16.out).mono ?_
      rintro e w7 ⟨rfl, hb7⟩
      have HQ7 := Lib.hid ((hb7.block _ hs6).trans HQ6.out)
      have HB7 := Lib.hid (HB6.out.trans (hb7.mono HB6.out.size))
      have HX17 := Lib.hid (HX16.out.below hb7 (Nat.le_refl _))
      have HX27 := Lib.hid (HX26.out.below hb7 (Nat.le_refl _))
      have hs7 : wr.heap.size < w7.heap.size := Nat.lt_of_lt_of_le hs6 hb7.size
      clear hb7 m0 m1 m2 m3 m4 m5 m6 m7 m8 m9 HQ6 HB6 HX16 HX26
      obtain ⟨m0, m1, m2, m3, m4, m5, m6, m7, m8, m9⟩ := row10e HQ7.out
      by_cases h1 : d = 1
      · subst h1
        go_wp2_with fail
        refine (HLF.out _ HX17.out).mono ?_
        rintro e w8 ⟨rfl, hb8⟩
        have HQ8 := Lib.hid ((hb8.block _ hs7).trans HQ7.out)
        have HB8 := Lib.hid (HB7.out.trans (hb8.mono HB7.out.size))
        have HX8 := Lib.hid (HX27.out.below hb8 (Nat.le_refl _))
        have hsq : wr.heap.size < w8.heap.size := Nat.lt_of_lt_of_le hs7 hb8.size
        clear hb8 m0 m1 m2 m3 m4 m5 m6 m7 m8 m9 HQ7 HB7 HX17 HX27
        obtain ⟨m0, m1, m2, m3, m4, m5, m6, m7, m8, m9⟩ := row10e HQ8.out
        go_wp2_with fail
        refine (HNQ.out _).mono ?_
        rintro e w9 ⟨rfl, hb9⟩
        have HQ9 := Lib.hid ((hb9.block _ hsq).trans HQ8.out)
        have HB9 := Lib.hid (HB8.out.trans (hb9.mono HB8.out.size))
        have HX9 := Lib.hid (HX8.out.below hb9 (Nat.le_refl _))
        clear hb9 m0 m1 m2 m3 m4 m5 m6 m7 m8 m9
        obtain ⟨m0, m1, m2, m3, m4, m5, m6, m7, m8, m9⟩ := row10e HQ9.out
        rcases bnm with _ | _
        · have HRF : Hid (r = false) := by unfold RowKit.Hid; rw [HEQ.out]; simp
          go_wp2_with fail
          go_ret
          exact ⟨by rw [HRF.out]; rfl, HB0.out.trans (HB9.out.mono HB0.out.size)⟩
        rcases lt with _ | _
        · have HRF : Hid (r = false) := by unfold RowKit.Hid; rw [HEQ.out]; simp
          go_wp2_with fail
          go_ret
          exact ⟨by rw [HRF.out]; rfl, HB0.out.trans (HB9.out.mono HB0.out.size)⟩
        go_wp2_with fail
        refine (HRE.out _ HX9.out).mono ?_
        rintro e w10 ⟨rfl, hb10⟩
        have HB10 := Lib.hid (HB9.out.trans (hb10.mono HB9.out.size))
        clear hb10 m0 m1 m2 m3 m4 m5 m6 m7 m8 m9
        by_cases hr0 : rt = 0
        · subst hr0
          have HRT : Hid (r = (pe.drop (j + 1)).all eqOk) := by unfold RowKit.Hid; rw [HEQ.out]; simp
          go_wp2_with fail
          go_roundw
          case rel => exact ⟨j + 1, by omega, by go_num, HRT.out, HB10.out⟩
          case measure => simp [intOf]; omega
        · have hrn : (rt != 0) = true := by simpa using hr0
          have hre : (rt == 0) = false := by simpa using hr0
          have HRF : Hid (r = false) := by unfold RowKit.Hid; rw [HEQ.out, hre]; simp
          clear hre
          go_wp2_with fail
          go_ret
          exact ⟨by rw [HRF.out]; rfl, HB0.out.trans (HB10.out.mono HB0.out.size)⟩
      · have hd1 : (d == 1) = false := by simpa using h1
        have HQ8 := Lib.hid HQ7.out
        have HB8 := Lib.hid HB7.out
        have HX8 := Lib.hid HX27.out
        have hsq := hs7
        clear HQ7 HB7 HX17 HX27
        go_wp2_with fail
        refine (HNQ.out _).mono ?_
        rintro e w9 ⟨rfl, hb9⟩
        have HQ9 := Lib.hid ((hb9.block _ hsq).trans HQ8.out)
        have HB9 := Lib.hid (HB8.out.trans (hb9.mono HB8.out.size))
        have HX9 := Lib.hid (HX8.out.below hb9 (Nat.le_refl _))
        clear hb9 m0 m1 m2 m3 m4 m5 m6 m7 m8 m9
        obtain ⟨m0, m1, m2, m3, m4, m5, m6, m7, m8, m9⟩ := row10e HQ9.out
        rcases bnm with _ | _
        · have HRF : Hid (r = false) := by unfold RowKit.Hid; rw [HEQ.out]; simp
          go_wp2_with fail
          go_ret
          exact ⟨by rw [HRF.out]; rfl, HB0.out.trans (HB9.out.mono HB0.out.size)⟩
        by_cases hlo : d < 0
        · have HRF : Hid (r = false) := by
            have e0 : (d == 0) = false := by simp; omega
            have e2 : (d == 2) = false := by simp; omega
            unfold RowKit.Hid; rw [HEQ.out, if_neg h1, e0, e2]; simp
          have hd : decide (d < 0) = true := decide_eq_true hlo
          go_wp2_with fail
          go_ret
          exact ⟨by rw [HRF.out]; rfl, HB0.out.trans (HB9.out.mono HB0.out.size)⟩
        have hdlo : decide (d < 0) = false := decide_eq_false hlo
        by_cases hhi : 2 < d
        · have HRF : Hid (r = false) := by
            have e0 : (d == 0) = false := by simp; omega
            have e2 : (d == 2) = false := by simp; omega
            unfold RowKit.Hid; rw [HEQ.out, if_neg h1, e0, e2]; simp
          have hd : decide (2 < d) = true := decide_eq_true hhi
          go_wp2_with fail
          go_ret
          exact ⟨by rw [HRF.out]; rfl, HB0.out.trans (HB9.out.mono HB0.out.size)⟩
        have hdhi : decide (2 < d) = false := decide_eq_false hhi
        have HDE : Hid ((d == 0 || d == 2) = true) := by unfold RowKit.Hid; simp; omega
        rcases sm with _ | _
        · have HRF : Hid (r = false) := by unfold RowKit.Hid; rw [HEQ.out, if_neg h1, HDE.out]; simp
          go_wp2_with fail
          go_ret
          exact ⟨by rw [HRF.out]; rfl, HB0.out.trans (HB9.out.mono HB0.out.size)⟩
        go_wp2_with fail
        refine (HRE.out _ HX9.out).mono ?_
        rintro e w10 ⟨rfl, hb10⟩
        have HB10 := Lib.hid (HB9.out.trans (hb10.mono HB9.out.size))
        clear hb10 m0 m1 m2 m3 m4 m5 m6 m7 m8 m9
        by_cases hr0 : rt = 0
        · subst hr0
          have HRT : Hid (r = (pe.drop (j + 1)).all eqOk) := by unfold RowKit.Hid; rw [HEQ.out, if_neg h1, HDE.out]; simp
          go_wp2_with fail
          go_roundw
          case rel => exact ⟨j + 1, by omega, by go_num, HRT.out, HB10.out⟩
          case measure => simp [intOf]; omega
        · have hrn : (rt != 0) = true := by simpa using hr0
          have hre : (rt == 0) = false := by simpa using hr0
          have HRF : Hid (r = false) := by unfold RowKit.Hid; rw [HEQ.out, hre]; simp
          clear hre
          go_wp2_with fail
          go_ret
          exact ⟨by rw [HRF.out]; rfl, HB0.out.trans (HB10.out.mono HB0.out.size)⟩
    · obtain rfl : j = pe.length := by omega
      have HRT : Hid (r = true) := by unfold RowKit.Hid; rw [HJ.out, all_done]
      go_wp2_with fail
      go_ret
      exact ⟨by rw [HRT.out]; rfl, HB0.out.trans (hb.mono HB0.out.size)⟩
end Go.Proofs.Ytilkilffkjhhbaa
