/-
  Any text is read as a program as the document says: the walk.
-/
import Derived.Test.YtilkilffkjhhbaaTrK
import Derived.Test.YtilkilffkjhhbaaTrSame
import Derived.Test.YtilkilffkjhhbaaTrZu
namespace Go.Proofs.Ytilkilffkjhhbaa
set_option maxRecDepth 20000
set_option linter.unusedVariables false
open Go.RowKit Tr Mem

set_option maxRecDepth 100000 in
set_option maxHeartbeats 8000000 in
theorem treeParses_walk (w : World) (l : Lx.Bs) (hl : l.length ≤ maxLen) :
    Calls Try.prog 3 #[.string ⟨l.toArray⟩] w fun e w' => e = .returned (.bool true) ∧ Below w.heap.size w w' := by
  have HK := Lib.hid (fun W => known_any W)
  have hl9 : l.length ≤ 9223372036854775807 := by unfold maxLen at hl; omega
  by_cases hbig : 20000 < l.length
  · clear hl
    go_enter Try.func3, Try.ntmps3
    go_wp2_with fail
    refine (HK.out _).mono ?_
    rintro e w1 ⟨rfl, hb1⟩
    have HB1 := Lib.hid hb1
    clear hb1
    go_wp2_with fail
    go_ret
    exact ⟨rfl, HB1.out⟩
  have HP1 := Lib.hid (fun W => parse_any l hl W)
  have HP2 := Lib.hid (fun W => refparse_any l hl W)
  have HFP := Lib.hid (parse_pgFit l)
  unfold ParsePost at HP1 HP2
  generalize parse l = r at *
  obtain ⟨pg, pe, pp⟩ := r
  dsimp only at *
  have HSAME := Lib.hid (fun K K' L M W h1 h2 => refsame_any pg pg L M K K' W h1 h2 HFP.out HFP.out)
  simp only [samePg_refl] at HSAME
  clear hl
  go_enter Try.func3, Try.ntmps3
  go_wp2_with fail
  refine (HP1.out _).mono ?_
  rintro e w3 ⟨L, rfl, hpa, hb3⟩
  have HPA := Lib.hid hpa
  have HB3 := Lib.hid hb3
  clear hpa hb3
  unfold pgAgg
  dsimp only
  go_upto_region 4 with (fail)
  obtain ⟨W4, hW4⟩ : ∃ W, W = w3.alloc (.cells #[.string ⟨pg.name.toArray⟩, .slice L.ai pg.ins.length L.ci, .slice L.ao pg.outs.length L.co, .slice L.al pg.locals.length L.cl, .slice L.ae pg.eqs.length L.ce] 26) := ⟨_, rfl⟩
  rw [← hW4]
  have hb4 : Below w3.heap.size w3 W4 := by rw [hW4]; exact (Below.refl _ _).alloc (Nat.le_refl _) _
  have HR4 : Hid (W4.heap[w3.heap.size]? = some (.cells #[.string ⟨pg.name.toArray⟩, .slice L.ai pg.ins.length L.ci, .slice L.ao pg.outs.length L.co, .slice L.al pg.locals.length L.cl, .slice L.ae pg.eqs.length L.ce] 26 (0, 0))) := by rw [hW4]; exact heap_alloc_new _ _
  have hs4 : w3.heap.size < W4.heap.size := by rw [hW4]; simp
  have HPA4 := Lib.hid (HPA.out.below hb4)
  have HB4 := Lib.hid (HB3.out.trans (hb4.mono HB3.out.size))
  clear hW4 hb4 HPA HB3
  go_wp2_with fail
  refine (HP2.out _).mono ?_
  rintro e w5 ⟨M, rfl, hpb, hb5⟩
  have HR5 := Lib.hid ((hb5.block _ hs4).trans HR4.out)
  have HPA5 := Lib.hid (HPA4.out.below hb5)
  have HPB5 := Lib.hid hpb
  have HB5 := Lib.hid (HB4.out.trans (hb5.mono HB4.out.size))
  have hs5 : w3.heap.size < w5.heap.size := Nat.lt_of_lt_of_le hs4 hb5.size
  clear hb5 hpb HR4 HPA4 HB4
  unfold pgAgg
  dsimp only
  go_upto_region 5 with (fail)
  obtain ⟨W6, hW6⟩ : ∃ W, W = w5.alloc (.cells #[.string ⟨pg.name.toArray⟩, .slice M.ai pg.ins.length M.ci, .slice M.ao pg.outs.length M.co, .slice M.al pg.locals.length M.cl, .slice M.ae pg.eqs.length M.ce] 26) := ⟨_, rfl⟩
  rw [← hW6]
  have hb6 : Below w5.heap.size w5 W6 := by rw [hW6]; exact (Below.refl _ _).alloc (Nat.le_refl _) _
  have hr6 : W6.heap[w5.heap.size]? = some (.cells #[.string ⟨pg.name.toArray⟩, .slice M.ai pg.ins.length M.ci, .slice M.ao pg.outs.length M.co, .slice M.al pg.locals.length M.cl, .slice M.ae pg.eqs.length M.ce] 26 (0, 0)) := by rw [hW6]; exact heap_alloc_new _ _
  have hr5 := (hb6.block _ hs5).trans HR5.out
  have HPA6 := Lib.hid (HPA5.out.below hb6)
  have HPB6 := Lib.hid (HPB5.out.below hb6)
  have HB6 := Lib.hid (HB5.out.trans (hb6.mono HB5.out.size))
  have HC := Lib.hid (HSAME.out _ _ L M _ HPA6.out HPB6.out)
  unfold pgAgg at HC
  clear hW6 hb6 HR5 HPA5 HPB5 HB5
  have k0 : W6.cell? ⟨w3.heap.size, 0, none⟩ = some (.string ⟨pg.name.toArray⟩) := cell_of_row W6 w3.heap.size 0 _ _ _ hr5
  have q0 : W6.cell? ⟨w5.heap.size, 0, none⟩ = some (.string ⟨pg.name.toArray⟩) := cell_of_row W6 w5.heap.size 0 _ _ _ hr6
  obtain ⟨⟨k1, k2, k3, k4⟩, -⟩ := row5 hr5
  obtain ⟨⟨q1, q2, q3, q4⟩, -⟩ := row5 hr6
  clear hr5 hr6
  go_wp2_with fail
  refine HC.out.mono ?_
  rintro e w7 ⟨rfl, hb7⟩
  have HB7 := Lib.hid (HB6.out.trans (hb7.mono HB6.out.size))
  clear hb7
  go_wp2_with fail
  refine (HK.out _).mono ?_
  rintro e w8 ⟨rfl, hb8⟩
  have HB8 := Lib.hid (HB7.out.trans (hb8.mono HB7.out.size))
  clear hb8
  go_wp2_with fail
  go_ret
  exact ⟨rfl, HB8.out⟩
end Go.Proofs.Ytilkilffkjhhbaa
