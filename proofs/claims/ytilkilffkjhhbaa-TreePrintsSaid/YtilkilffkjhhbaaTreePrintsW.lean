/-
  Any program is written as the document says: the walk.
-/
import Derived.Test.YtilkilffkjhhbaaTrW4
import Derived.Test.YtilkilffkjhhbaaTrLi
import Derived.Test.YtilkilffkjhhbaaTrK
namespace Go.Proofs.Ytilkilffkjhhbaa
set_option maxRecDepth 20000
set_option linter.unusedVariables false
open Go.RowKit Tr Mem

set_option maxRecDepth 100000 in
set_option maxHeartbeats 8000000 in
theorem treePrints_walk (w : World) (p : Pg) (L : Lie) (hw : PgAt w (fun _ => True) p L ∧ PgFit p) :
    Calls Try.prog 4 #[pgAgg p L] w fun e w' => e = .returned (.bool true) ∧ Below w.heap.size w w' := by
  obtain ⟨hA, hf⟩ := hw
  have HA := Lib.hid hA
  have HK := Lib.hid (fun W => known_any W)
  have few : LightP p → Few p := fun h => ⟨Nat.le_trans h.ins (by decide), Nat.le_trans h.outs (by decide), Nat.le_trans h.locals (by decide), Nat.le_trans h.eqs (by decide)⟩
  have HLI := Lib.hid (fun W h => light_any p L (fun _ => True) W h hf)
  have HLN := Lib.hid (fun W h (hl : LightP p) => lent_any p L (fun _ => True) W h hf (few hl) (fun x hx => by have := hl.small x hx; omega))
  have HP1 := Lib.hid (fun M K W h hl => print_any p M K W h hf (few hl))
  have HP2 := Lib.hid (fun W h hl => refprint_any p L (fun _ => True) W h hf (few hl))
  have HSAME := Lib.hid (fun K M W h1 h2 => refsame_any p p M L K (fun _ => True) W h1 h2 hf hf)
  simp only [samePg_refl] at HSAME
  clear hA hf few
  generalize print p = pr at *
  obtain ⟨tx, pe⟩ := pr
  dsimp only at *
  have htt : (tx == tx) = true := beq_self_eq_true _
  have hpp : (pe == pe) = true := beq_self_eq_true _
  unfold pgAgg at *
  go_enter Try.func4, Try.ntmps4
  go_upto_region 1 with (fail)
  obtain ⟨W0, hW0⟩ : ∃ W0, W0 = w.alloc (.cells #[.string ⟨p.name.toArray⟩, .slice L.ai p.ins.length L.ci, .slice L.ao p.outs.length L.co, .slice L.al p.locals.length L.cl, .slice L.ae p.eqs.length L.ce] 26) := ⟨_, rfl⟩
  rw [← hW0]
  obtain ⟨hp0, hb0, hs0⟩ := row_new hW0
  have HP0 := Lib.hid hp0
  have HB0 := Lib.hid hb0
  have HA0 := Lib.hid (HA.out.below hb0)
  clear hW0 hp0 hb0
  obtain ⟨⟨n1, n2, n3, n4⟩, -⟩ := row5 HP0.out
  have n0 : W0.cell? ⟨w.heap.size, 0, none⟩ = some (.string ⟨p.name.toArray⟩) := cell_of_row W0 w.heap.size 0 _ _ _ HP0.out
  go_wp2_with fail
  refine (HLI.out _ HA0.out).mono ?_
  rintro e w1 ⟨b, rfl, hlp, hb1⟩
  have hp1 := (hb1.block _ hs0).trans HP0.out
  have HR1 := Lib.hid hp1
  have HB1 := Lib.hid (HB0.out.trans (hb1.mono HB0.out.size))
  have HA1 := Lib.hid (HA0.out.below hb1)
  have hs1 : w.heap.size < w1.heap.size := Nat.lt_of_lt_of_le hs0 hb1.size
  clear hb1 n0 n1 n2 n3 n4 hp1
  cases b
  · clear hlp
    go_wp2_with fail
    refine (HK.out _).mono ?_
    rintro e w2 ⟨rfl, hb2⟩
    have HB2 := Lib.hid (HB1.out.trans (hb2.mono HB1.out.size))
    clear hb2
    go_wp2_with fail
    go_ret
    exact ⟨rfl, HB2.out⟩
  have HLP := Lib.hid (hlp rfl)
  clear hlp
  obtain ⟨⟨n1, n2, n3, n4⟩, -⟩ := row5 HR1.out
  have n0 : w1.cell? ⟨w.heap.size, 0, none⟩ = some (.string ⟨p.name.toArray⟩) := cell_of_row w1 w.heap.size 0 _ _ _ HR1.out
  go_wp2_with fail
  refine (HLN.out _ HA1.out HLP.out).mono ?_
  rintro e w3 ⟨M, rfl, hpa, hb3⟩
  have HPA := Lib.hid hpa
  have HR3 := Lib.hid ((hb3.block _ hs1).trans HR1.out)
  have HB3 := Lib.hid (HB1.out.trans (hb3.mono HB1.out.size))
  have HA3 := Lib.hid (HA1.out.below hb3)
  have hs3 : w.heap.size < w3.heap.size := Nat.lt_of_lt_of_le hs1 hb3.size
  clear hpa hb3 n0 n1 n2 n3 n4
  go_upto_region 4 with (fail)
  obtain ⟨W4, hW4⟩ : ∃ W, W = w3.alloc (.cells #[.string ⟨p.name.toArray⟩, .slice M.ai p.ins.length M.ci, .slice M.ao p.outs.length M.co, .slice M.al p.locals.length M.cl, .slice M.ae p.eqs.length M.ce] 26) := ⟨_, rfl⟩
  rw [← hW4]
  obtain ⟨hq4, hb4, hs4⟩ := row_new hW4
  have HQ4 := Lib.hid hq4
  have HR4 := Lib.hid ((hb4.block _ hs3).trans HR3.out)
  have HB4 := Lib.hid (HB3.out.trans (hb4.mono HB3.out.size))
  have HA4 := Lib.hid (HA3.out.below hb4)
  have HPA4 := Lib.hid (HPA.out.below hb4)
  have hs34 : w.heap.size < W4.heap.size := by omega
  clear hW4 hq4 hb4
  obtain ⟨⟨k1, k2, k3, k4⟩, -⟩ := row5 HQ4.out
  have k0 : W4.cell? ⟨w3.heap.size, 0, none⟩ = some (.string ⟨p.name.toArray⟩) := cell_of_row W4 w3.heap.size 0 _ _ _ HQ4.out
  go_wp2_with fail
  refine (HP1.out M _ _ HPA4.out HLP.out).mono ?_
  rintro e w5 ⟨rfl, hb5⟩
  have HQ5 := Lib.hid ((hb5.block _ hs4).trans HQ4.out)
  have HR5 := Lib.hid ((hb5.block _ hs34).trans HR4.out)
  have HB5 := Lib.hid (HB4.out.trans (hb5.mono HB4.out.size))
  have HA5 := Lib.hid (HA4.out.below hb5)
  have HPA5 := Lib.hid (HPA4.out.below hb5)
  have ht4 : w3.heap.size < w5.heap.size := Nat.lt_of_lt_of_le hs4 hb5.size
  have ht0 : w.heap.size < w5.heap.size := Nat.lt_of_lt_of_le hs34 hb5.size
  clear hb5 k0 k1 k2 k3 k4
  obtain ⟨⟨n1, n2, n3, n4⟩, -⟩ := row5 HR5.out
  have n0 : w5.cell? ⟨w.heap.size, 0, none⟩ = some (.string ⟨p.name.toArray⟩) := cell_of_row w5 w.heap.size 0 _ _ _ HR5.out
  go_wp2_with fail
  refine (HP2.out _ HA5.out HLP.out).mono ?_
  rintro e w6 ⟨rfl, hb6⟩
  have hq6 := (hb6.block _ ht4).trans HQ5.out
  have hr6 := (hb6.block _ ht0).trans HR5.out
  have HB6 := Lib.hid (HB5.out.trans (hb6.mono HB5.out.size))
  have HC := Lib.hid (HSAME.out _ M _ (HPA5.out.below hb6) (HA5.out.below hb6))
  clear hb6 n0 n1 n2 n3 n4
  obtain ⟨⟨n1, n2, n3, n4⟩, -⟩ := row5 hr6
  have n0 : w6.cell? ⟨w.heap.size, 0, none⟩ = some (.string ⟨p.name.toArray⟩) := cell_of_row w6 w.heap.size 0 _ _ _ hr6
  obtain ⟨⟨k1, k2, k3, k4⟩, -⟩ := row5 hq6
  have k0 : w6.cell? ⟨w3.heap.size, 0, none⟩ = some (.string ⟨p.name.toArray⟩) := cell_of_row w6 w3.heap.size 0 _ _ _ hq6
  clear hr6 hq6
  go_wp2_with fail
  refine HC.out.mono ?_
  rintro e w7 ⟨rfl, hb7⟩
  have HB7 := Lib.hid (HB6.out.trans (hb7.mono HB6.out.size))
  clear hb7 n0 n1 n2 n3 n4 k0 k1 k2 k3 k4
  go_wp2_with fail
  refine (HK.out _).mono ?_
  rintro e w8 ⟨rfl, hb8⟩
  have HB8 := Lib.hid (HB7.out.trans (hb8.mono HB7.out.size))
  clear hb8
  go_wp2_with fail
  go_ret
  exact ⟨rfl, HB8.out⟩
end Go.Proofs.Ytilkilffkjhhbaa
