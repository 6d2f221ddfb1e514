/-
  A program that was written is read as it was: the walk.
-/
import Derived.Test.YtilkilffkjhhbaaTrLi
import Derived.Test.YtilkilffkjhhbaaTrL5
import Derived.Test.YtilkilffkjhhbaaTrRb
import Derived.Test.YtilkilffkjhhbaaTrK
namespace Go.Proofs.Ytilkilffkjhhbaa
set_option maxRecDepth 20000
set_option linter.unusedVariables false
open Go.RowKit Tr Mem

theorem LightP.few {p : Pg} (h : LightP p) : Few p := ⟨Nat.le_trans h.ins (by decide), Nat.le_trans h.outs (by decide), Nat.le_trans h.locals (by decide), Nat.le_trans h.eqs (by decide)⟩
/-- a program's row, and what is read of it -/
theorem pg_row {w W : World} {v : Value} {t : TypeId} {cs : Array Value} (hW : W = w.alloc (.cells cs t)) : W.heap[w.heap.size]? = some (.cells cs t (0, 0)) ∧ Below w.heap.size w W ∧ w.heap.size < W.heap.size := by
  subst hW
  exact ⟨heap_alloc_new _ _, (Below.refl _ _).alloc (Nat.le_refl _) _, by simp⟩
set_option maxRecDepth 100000 in
set_option maxHeartbeats 8000000 in
theorem treeBack_walk (w : World) (p : Pg) (L : Lie) (hw : PgAt w (fun _ => True) p L ∧ PgFit p) :
    Calls Try.prog 5 #[pgAgg p L] w fun e w' => e = .returned (.bool true) ∧ Below w.heap.size w w' := by
  obtain ⟨hA, hf⟩ := hw
  have HA := Lib.hid hA
  have HF := Lib.hid hf
  have HK := Lib.hid (fun W => known_any W)
  have HLI := Lib.hid (fun W h => light_any p L (fun _ => True) W h hf)
  have HSAME := Lib.hid (fun K K' M W h1 h2 => refsame_any p p L M K K' W h1 h2 hf hf)
  simp only [samePg_refl] at HSAME
  have HPR := Lib.hid (fun M K W h hl => print_any p M K W h hf (LightP.few hl))
  have HB := Lib.hid (fun h => print_back (p := p) h)
  have HNO := Lib.hid (fun h => print_none (p := p) h)
  clear hA hf
  generalize print p = pr at *
  obtain ⟨tx, pe⟩ := pr
  dsimp only at *
  unfold pgAgg at *
  go_enter Try.func5, Try.ntmps5
  go_upto_region 1 with (fail)
  obtain ⟨W0, hW0⟩ : ∃ W0, W0 = w.alloc (.cells #[.string ⟨p.name.toArray⟩, .slice L.ai p.ins.length L.ci, .slice L.ao p.outs.length L.co, .slice L.al p.locals.length L.cl, .slice L.ae p.eqs.length L.ce] 26) := ⟨_, rfl⟩
  rw [← hW0]
  obtain ⟨hp0, hb0, hs0⟩ := pg_row (v := .bool true) hW0
  have HP0 := Lib.hid hp0
  have HB0 := Lib.hid hb0
  have HA0 := Lib.hid (HA.out.below hb0)
  clear hW0 hp0 hb0
  obtain ⟨⟨n1, n2, n3, n4⟩, -⟩ := row5 HP0.out
  have n0 : W0.cell? ⟨w.heap.size, 0, none⟩ = some (.string ⟨p.name.toArray⟩) := cell_of_row W0 w.heap.size 0 _ _ _ HP0.out
  go_wp2_with fail
  refine (HLI.out _ HA0.out).mono ?_
  rintro e w1 ⟨b, rfl, hlp, hb1⟩
  have hp1 := (hb1.block _ hs0).trans HP0.out
  have HP1 := Lib.hid hp1
  have HB1 := Lib.hid (HB0.out.trans (hb1.mono HB0.out.size))
  have HA1 := Lib.hid (HA0.out.below hb1)
  have hs1 : w.heap.size < w1.heap.size := Nat.lt_of_lt_of_le hs0 hb1.size
  clear hb1 n0 n1 n2 n3 n4 hp1
  cases b
  · clear hlp
    go_wp2_with fail
    refine (HK.out _).mono ?_
    rintro e w2 ⟨rfl, hb2⟩
    have HB2 := Lib.hid (HB1.out.trans (hb2.mono HB1.out.size))
    clear hb2
    go_wp2_with fail
    go_ret
    exact ⟨rfl, HB2.out⟩
  have HLP := Lib.hid (hlp rfl)
  clear hlp
  obtain ⟨⟨n1, n2, n3, n4⟩, -⟩ := row5 HP1.out
  have n0 : w1.cell? ⟨w.heap.size, 0, none⟩ = some (.string ⟨p.name.toArray⟩) := cell_of_row w1 w.heap.size 0 _ _ _ HP1.out
  go_wp2_with fail
  refine (HPR.out L _ _ HA1.out HLP.out).mono ?_
  rintro e w2 ⟨rfl, hb2⟩
  have HP2 := Lib.hid ((hb2.block _ hs1).trans HP1.out)
  have HB2 := Lib.hid (HB1.out.trans (hb2.mono HB1.out.size))
  have HA2 := Lib.hid (HA1.out.below hb2)
  have hs2 : w.heap.size < w2.heap.size := Nat.lt_of_lt_of_le hs1 hb2.size
  clear hb2 n0 n1 n2 n3 n4
  by_cases he : pe = 0
  rotate_left
  · have hne : (pe != 0) = true := by simpa using he
    obtain rfl := HNO.out he
    clear he
    go_wp2_with fail
    refine (HK.out _).mono ?_
    rintro e w3 ⟨rfl, hb3⟩
    have HB3 := Lib.hid (HB2.out.trans (hb3.mono HB2.out.size))
    clear hb3
    go_wp2_with fail
    go_ret
    exact ⟨rfl, HB3.out⟩
  subst he
  obtain ⟨hl4, hq1, hq2⟩ := HB.out rfl
  have HPS := Lib.hid (fun W => parse_any tx (by unfold maxLen; omega) W)
  unfold ParsePost at HPS
  rw [hq1, hq2] at HPS
  generalize (parse tx).2.2 = pp at *
  clear hq1 hq2 HB HNO
  go_wp2_with fail
  refine (HPS.out _).mono ?_
  rintro e w3 ⟨M, rfl, hpa, hb3⟩
  have HPA := Lib.hid hpa
  have HP3 := Lib.hid ((hb3.block _ hs2).trans HP2.out)
  have HB3 := Lib.hid (HB2.out.trans (hb3.mono HB2.out.size))
  have HA3 := Lib.hid (HA2.out.below hb3)
  have hs3 : w.heap.size < w3.heap.size := Nat.lt_of_lt_of_le hs2 hb3.size
  clear hpa hb3
  unfold pgAgg
  go_upto_region 7 with (fail)
  obtain ⟨W4, hW4⟩ : ∃ W, W = w3.alloc (.cells #[.string ⟨p.name.toArray⟩, .slice M.ai p.ins.length M.ci, .slice M.ao p.outs.length M.co, .slice M.al p.locals.length M.cl, .slice M.ae p.eqs.length M.ce] 26) := ⟨_, rfl⟩
  rw [← hW4]
  obtain ⟨hq4, hb4, hs4⟩ := pg_row (v := .bool true) hW4
  have HQ4 := Lib.hid hq4
  have HP4 := Lib.hid ((hb4.block _ hs3).trans HP3.out)
  have HB4 := Lib.hid (HB3.out.trans (hb4.mono HB3.out.size))
  have HA4 := Lib.hid (HA3.out.below hb4)
  have HPA4 := Lib.hid (HPA.out.below hb4)
  have hs34 : w.heap.size < W4.heap.size := by omega
  clear hW4 hq4 hb4
  obtain ⟨⟨k1, k2, k3, k4⟩, -⟩ := row5 HQ4.out
  have k0 : W4.cell? ⟨w3.heap.size, 0, none⟩ = some (.string ⟨p.name.toArray⟩) := cell_of_row W4 w3.heap.size 0 _ _ _ HQ4.out
  go_wp2_with fail
  refine (HPR.out M _ _ HPA4.out HLP.out).mono ?_
  rintro e w5 ⟨rfl, hb5⟩
  have hq5 := (hb5.block _ hs4).trans HQ4.out
  have hp5 := (hb5.block _ hs34).trans HP4.out
  have HB5 := Lib.hid (HB4.out.trans (hb5.mono HB4.out.size))
  have HC := Lib.hid (HSAME.out _ _ M _ (HA4.out.below hb5) (HPA4.out.below hb5))
  clear hb5 k0 k1 k2 k3 k4
  obtain ⟨⟨n1, n2, n3, n4⟩, -⟩ := row5 hp5
  have n0 : w5.cell? ⟨w.heap.size, 0, none⟩ = some (.string ⟨p.name.toArray⟩) := cell_of_row w5 w.heap.size 0 _ _ _ hp5
  obtain ⟨⟨k1, k2, k3, k4⟩, -⟩ := row5 hq5
  have k0 : w5.cell? ⟨w3.heap.size, 0, none⟩ = some (.string ⟨p.name.toArray⟩) := cell_of_row w5 w3.heap.size 0 _ _ _ hq5
  clear hp5 hq5
  have htt : (tx == tx) = true := beq_self_eq_true _
  go_wp2_with fail
  refine HC.out.mono ?_
  rintro e w6 ⟨rfl, hb6⟩
  have HB6 := Lib.hid (HB5.out.trans (hb6.mono HB5.out.size))
  clear hb6 n0 n1 n2 n3 n4 k0 k1 k2 k3 k4
  go_wp2_with fail
  refine (HK.out _).mono ?_
  rintro e w7 ⟨rfl, hb7⟩
  have HB7 := Lib.hid (HB6.out.trans (hb7.mono HB6.out.size))
  clear hb7
  go_wp2_with fail
  go_ret
  exact ⟨rfl, HB7.out⟩
end Go.Proofs.Ytilkilffkjhhbaa
