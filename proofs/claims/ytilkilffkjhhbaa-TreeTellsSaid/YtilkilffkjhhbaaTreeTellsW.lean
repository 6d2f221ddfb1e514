/-
  Which programs and expressions are the same is as the document says: the walk.
-/
import Derived.Test.YtilkilffkjhhbaaTrT3
import Derived.Test.YtilkilffkjhhbaaTrT7
import Derived.Test.YtilkilffkjhhbaaTrLi
import Derived.Test.YtilkilffkjhhbaaTrK
namespace Go.Proofs.Ytilkilffkjhhbaa
set_option maxRecDepth 20000
set_option linter.unusedVariables false
open Go.RowKit Tr Mem

set_option maxRecDepth 100000 in
set_option maxHeartbeats 16000000 in
theorem treeTells_walk (w : World) (p : Pg) (L : Lie) (hw : PgAt w (fun _ => True) p L ∧ PgFit p) (q : Pg) (N : Lie) (hw' : PgAt w (fun _ => True) q N ∧ PgFit q) :
    Calls Try.prog 10 #[pgAgg p L, pgAgg q N] w fun e w' => e = .returned (.bool true) ∧ Below w.heap.size w w' := by
  obtain ⟨hA, hf⟩ := hw
  obtain ⟨hB, hg⟩ := hw'
  have HA := Lib.hid hA
  have HB := Lib.hid hB
  have HEA := Lib.hid hA.eqs
  have HEB := Lib.hid hB.eqs
  have HFA := Lib.hid hf.eqs.2
  have HFB := Lib.hid hg.eqs.2
  have hpe : p.eqs.length ≤ 9223372036854775807 := by have := hf.eqs.1; unfold maxLen at this; omega
  have hqe : q.eqs.length ≤ 9223372036854775807 := by have := hg.eqs.1; unfold maxLen at this; omega
  have HK := Lib.hid (fun W => known_any W)
  have HL1 := Lib.hid (fun W h => light_any p L (fun _ => True) W h hf)
  have HL2 := Lib.hid (fun W h => light_any q N (fun _ => True) W h hg)
  have HTS := Lib.hid (fun W h1 h2 => tsame_any p q L N (fun _ => True) (fun _ => True) W h1 h2 hf hg)
  have HRS := Lib.hid (fun W h1 h2 => refsame_any p q L N (fun _ => True) (fun _ => True) W h1 h2 hf hg)
  have HLN := Lib.hid (fun W h (hl : LightP p) => lent_any p L (fun _ => True) W h hf ⟨Nat.le_trans hl.ins (by decide), Nat.le_trans hl.outs (by decide), Nat.le_trans hl.locals (by decide), Nat.le_trans hl.eqs (by decide)⟩ (fun x hx => by have := hl.small x hx; omega))
  have HTL := Lib.hid (fun W M K h1 h2 => tsame_any p p L M (fun _ => True) K W h1 h2 hf hf)
  simp only [samePg_refl] at HTL
  generalize samePg p q = s at *
  clear hA hB hf hg
  unfold pgAgg at HTS HRS HL1 HL2 ⊢
  go_enter Try.func10, Try.ntmps10
  go_upto_region 1 with (fail)
  obtain ⟨W0, hW0⟩ : ∃ W0, W0 = (w.alloc (.cells #[.string ⟨p.name.toArray⟩, .slice L.ai p.ins.length L.ci, .slice L.ao p.outs.length L.co, .slice L.al p.locals.length L.cl, .slice L.ae p.eqs.length L.ce] 26)).alloc (.cells #[.string ⟨q.name.toArray⟩, .slice N.ai q.ins.length N.ci, .slice N.ao q.outs.length N.co, .slice N.al q.locals.length N.cl, .slice N.ae q.eqs.length N.ce] 26) := ⟨_, rfl⟩
  rw [← hW0]
  obtain ⟨h0, h1, h2, h3⟩ := alloc2_ _ _ _ _ _ _ hW0
  have hng : w.heap.size < w.heap.size + 1 := Nat.lt_succ_self _
  have hs1 : w.heap.size + 1 < W0.heap.size := by rw [h3]; exact Nat.lt_succ_self _
  generalize w.heap.size + 1 = g1 at *
  have hs0 : w.heap.size < W0.heap.size := by omega
  have HP0 := Lib.hid h0
  have HQ0 := Lib.hid h1
  have HB0 := Lib.hid h2
  clear hW0 h0 h1 h2 h3
  obtain ⟨⟨n1, n2, n3, n4⟩, -⟩ := row5 HP0.out
  have n0 : W0.cell? ⟨w.heap.size, 0, none⟩ = some (.string ⟨p.name.toArray⟩) := cell_of_row W0 w.heap.size 0 _ _ _ HP0.out
  go_wp2_with fail
  refine (HL1.out _ (HA.out.below HB0.out)).mono ?_
  rintro e w1 ⟨b, rfl, hlp, hb1⟩
  have HP1 := Lib.hid ((hb1.block _ hs0).trans HP0.out)
  have HQ1 := Lib.hid ((hb1.block _ hs1).trans HQ0.out)
  have HB1 := Lib.hid (HB0.out.trans (hb1.mono HB0.out.size))
  have ht0 : w.heap.size < w1.heap.size := Nat.lt_of_lt_of_le hs0 hb1.size
  have ht1 : g1 < w1.heap.size := Nat.lt_of_lt_of_le hs1 hb1.size
  clear hb1 n0 n1 n2 n3 n4 HP0 HQ0 HB0 hs0 hs1
  cases b
  · clear hlp
    go_wp2_with fail
    refine (HK.out _).mono ?_
    rintro e w2 ⟨rfl, hb2⟩
    have HB2 := Lib.hid (HB1.out.trans (hb2.mono HB1.out.size))
    clear hb2
    go_wp2_with fail
    go_ret
    exact ⟨rfl, HB2.out⟩
  have HLP := Lib.hid (hlp rfl)
  clear hlp
  obtain ⟨⟨n1, n2, n3, n4⟩, -⟩ := row5 HQ1.out
  have n0 : w1.cell? ⟨g1, 0, none⟩ = some (.string ⟨q.name.toArray⟩) := cell_of_row w1 g1 0 _ _ _ HQ1.out
  go_wp2_with fail
  refine (HL2.out _ (HB.out.below HB1.out)).mono ?_
  rintro e w2 ⟨b, rfl, -, hb2⟩
  have HP2 := Lib.hid ((hb2.block _ ht0).trans HP1.out)
  have HQ2 := Lib.hid ((hb2.block _ ht1).trans HQ1.out)
  have HB2 := Lib.hid (HB1.out.trans (hb2.mono HB1.out.size))
  have hs0 : w.heap.size < w2.heap.size := Nat.lt_of_lt_of_le ht0 hb2.size
  have hs1 : g1 < w2.heap.size := Nat.lt_of_lt_of_le ht1 hb2.size
  clear hb2 n0 n1 n2 n3 n4 HP1 HQ1 HB1 ht0 ht1
  cases b
  · go_wp2_with fail
    refine (HK.out _).mono ?_
    rintro e w3 ⟨rfl, hb3⟩
    have HB3 := Lib.hid (HB2.out.trans (hb3.mono HB2.out.size))
    clear hb3
    go_wp2_with fail
    go_ret
    exact ⟨rfl, HB3.out⟩
  obtain ⟨⟨n1, n2, n3, n4⟩, -⟩ := row5 HP2.out
  have n0 : w2.cell? ⟨w.heap.size, 0, none⟩ = some (.string ⟨p.name.toArray⟩) := cell_of_row w2 w.heap.size 0 _ _ _ HP2.out
  obtain ⟨⟨r1, r2, r3, r4⟩, -⟩ := row5 HQ2.out
  have r0 : w2.cell? ⟨g1, 0, none⟩ = some (.string ⟨q.name.toArray⟩) := cell_of_row w2 g1 0 _ _ _ HQ2.out
  go_upto_region 3 with (fail)
  refine wp_region_any (by kernel_rfl) ?_
  refine wpAny_ops (ops' := tl3Ops) (by kernel_rfl) ?_
  refine tl3Region _ _ (by simp) w.heap.size g1 p q L N s n0 n1 n2 n3 n4 r0 r1 r2 r3 r4 (fun W h => HTS.out W (HA.out.below (HB2.out.trans (h.mono HB2.out.size))) (HB.out.below (HB2.out.trans (h.mono HB2.out.size)))) (fun W h => HRS.out W (HA.out.below (HB2.out.trans (h.mono HB2.out.size))) (HB.out.below (HB2.out.trans (h.mono HB2.out.size)))) (fun W h => HLN.out W (HA.out.below (HB2.out.trans (h.mono HB2.out.size))) HLP.out) (fun W M K h hat => HTL.out W M K (HA.out.below (HB2.out.trans (h.mono HB2.out.size))) hat) rfl rfl ?_
  intro vs wq hbq _
  generalize vs 26 = u26
  have HQB := Lib.hid hbq
  clear hbq n0 n1 n2 n3 n4 r0 r1 r2 r3 r4 HTS HRS HLN HTL HL1 HL2 HLP
  simp only [tl3Slots, List.foldl_cons, List.foldl_nil]
  simp only [tl3Val]
  simp only [Act.put, List.setIfInBounds_toArray, List.set_cons_zero, List.set_cons_succ]
  go_wp2_with fail
  go_loopw [5, 6] (fun b i wr => ∃ j : Nat, j ≤ p.eqs.length ∧ b = .bool true ∧ i = .int .i64 j ∧ Below w2.heap.size w2 wr) (fun _ i _ => p.eqs.length - (intOf i).toNat)
  case atStart => exact ⟨0, Nat.zero_le _, rfl, rfl, HQB.out⟩
  case round =>
    obtain ⟨j, hj, rfl, rfl, hb⟩ := hrel
    have hp1 := (hb.block _ hs0).trans HP2.out
    have hq1 := (hb.block _ hs1).trans HQ2.out
    obtain ⟨⟨n1, n2, n3, n4⟩, -⟩ := row5 hp1
    obtain ⟨⟨r1, r2, r3, r4⟩, -⟩ := row5 hq1
    have HRB := Lib.hid (HB2.out.trans (hb.mono HB2.out.size))
    clear n1 n2 n3 r1 r2 r3 hp1 hq1
    by_cases hlt : j < p.eqs.length
    · by_cases hlt2 : j < q.eqs.length
      · obtain ⟨b, off, AF, cF, AE, cE, e1, hbl, hx1, hx2, c0, c1, c2, c3, c4, c5, c6, c7, c8, c9⟩ := HEA.out.in_ HRB.out j hlt
        obtain ⟨b', off', AF2, cF2, AE2, cE2, e2, hbl2, hy1, hy2, d0, d1, d2, d3, d4, d5, d6, d7, d8, d9⟩ := HEB.out.in_ HRB.out j hlt2
        have hf1 := HFA.out _ (List.getElem_mem hlt)
        have hf2 := HFB.out _ (List.getElem_mem hlt2)
        generalize p.eqs[j]'hlt = x1 at *
        generalize q.eqs[j]'hlt2 = x2 at *
        rw [e1] at n4
        rw [e2] at r4
        have HS1 := Lib.hid (fun W h1 h2 => sameExpr_any (fun _ => True) (fun _ => True) (size x1.e) x1.e x2.e (Nat.le_refl _) AE AE2 cE cE2 W h1 h2 hf1.2.2 hf2.2.2)
        have HS2 := Lib.hid (fun W h1 h2 => refSameExpr_any (fun _ => True) (fun _ => True) (size x1.e) x1.e x2.e (Nat.le_refl _) AE AE2 cE cE2 W h1 h2 hf1.2.2 hf2.2.2)
        unfold exAgg at HS1 HS2
        have HX := Lib.hid hx2
        have HY := Lib.hid hy2
        clear hx1 hx2 hy1 hy2 hf1 hf2 e1 e2 c0 c1 c2 c3 c4 c5 d0 d1 d2 d3 d4 d5
        go_upto_region 7 with (fail)
        refine wp_region_any (by kernel_rfl) ?_
        refine wpAny_ops (ops' := tl7Ops) (by kernel_rfl) ?_
        refine tl7Region _ _ (by simp) w.heap.size g1 b off p.eqs.length L.ce b' off' q.eqs.length N.ce j x1.e x2.e AE AE2 cE cE2 (same x1.e x2.e) hlt hlt2 n4 r4 c6 c7 c8 c9 d6 d7 d8 d9 (fun W h => HS1.out W (HX.out.below h (Nat.le_refl _)) (HY.out.below h (Nat.le_refl _))) (fun W h => HS2.out W (HX.out.below h (Nat.le_refl _)) (HY.out.below h (Nat.le_refl _))) rfl rfl rfl rfl ?_
        intro wz hbz
        have HBZ := Lib.hid (hb.trans (hbz.mono hb.size))
        generalize same x1.e x2.e = s9
        clear hbz hb n4 r4 c6 c7 c8 c9 d6 d7 d8 d9 HRB HX HY HS1 HS2
        simp only [tl7Slots, List.foldl_cons, List.foldl_nil]
        simp only [tl7Val]
        simp only [Act.put, List.setIfInBounds_toArray, List.set_cons_zero, List.set_cons_succ]
        go_wp2_with fail
        go_roundw
        case rel => exact ⟨j + 1, by omega, rfl, by go_num, HBZ.out⟩
        case measure => simp [intOf]; omega
      · clear hb
        go_wp2_with fail
        refine (HK.out _).mono ?_
        rintro e w4 ⟨rfl, hb4⟩
        have HB4 := Lib.hid (HRB.out.trans (hb4.mono HRB.out.size))
        clear hb4
        go_wp2_with fail
        go_ret
        exact ⟨rfl, HB4.out⟩
    · clear hb
      go_wp2_with fail
      refine (HK.out _).mono ?_
      rintro e w4 ⟨rfl, hb4⟩
      have HB4 := Lib.hid (HRB.out.trans (hb4.mono HRB.out.size))
      clear hb4
      go_wp2_with fail
      go_ret
      exact ⟨rfl, HB4.out⟩
end Go.Proofs.Ytilkilffkjhhbaa
