/-
  What must come of fixed calls.
-/
import Derived.Test.YtilkilffkjhhbaaTrRb
import Derived.Test.YtilkilffkjhhbaaTrPse
namespace Go.Proofs.Ytilkilffkjhhbaa
set_option maxRecDepth 20000
set_option linter.unusedVariables false
open Go.RowKit Tr Mem

def kText : Lx.Bs := [110, 111, 100, 101, 32, 102, 32, 40, 120, 32, 58, 32, 105, 110, 116, 41, 32, 114, 101, 116, 117, 114, 110, 115, 32, 40, 121, 32, 58, 32, 105, 110, 116, 41, 59, 10, 118, 97, 114, 10, 32, 32, 110, 32, 58, 32, 105, 110, 116, 59, 10, 108, 101, 116, 10, 32, 32, 110, 32, 61, 32, 48, 32, 102, 98, 121, 32, 121, 59, 10, 32, 32, 121, 32, 61, 32, 110, 32, 43, 32, 120, 59, 10, 116, 101, 108, 10]
def kPg : Pg := ⟨[102], [⟨[120], 1, 0, []⟩], [⟨[121], 1, 0, []⟩], [⟨[110], 1, 0, []⟩], [⟨[110], 1, .mk 1 0 [] [], .mk 3 0 [121] []⟩, ⟨[121], 0, Ex.zero, .mk 5 1 [] [.mk 3 0 [110] [], .mk 3 0 [120] []]⟩]⟩
theorem k_parse : parse kText = (kPg, 0, 0) := by kernel_rfl
theorem k_print : print kPg = (kText, 0) := by kernel_rfl
theorem k_short : parse [110, 111, 100, 101, 32, 102] = (Pg.zero, 16, 6) := by kernel_rfl
theorem fit_small {k n : Int} {m : Lx.Bs} (hn : -2147483648 ≤ n ∧ n ≤ 2147483647) (hm : m.length ≤ 100) : Fit (.mk k n m []) := fit_mk hn (by unfold maxLen; omega) (by simp) (by simp)
theorem k_fit : PgFit kPg := by
  have z := fit_zero
  have f1 : Fit (.mk 1 0 [] []) := fit_small (by omega) (by simp)
  have f2 : ∀ c, Fit (.mk 3 0 [c] []) := fun c => fit_small (by omega) (by simp)
  have f3 : Fit (.mk 5 1 [] [.mk 3 0 [110] [], .mk 3 0 [120] []]) := fit_mk (by omega) (by simp) (by simp) (by
    intro x hx
    simp only [List.mem_cons, List.not_mem_nil, or_false] at hx
    rcases hx with rfl | rfl
    · exact f2 _
    · exact f2 _)
  have one : ∀ c : UInt8, VrFit ⟨[c], 1, 0, []⟩ := fun c => ⟨by unfold maxLen; simp, by simp⟩
  refine ⟨by unfold maxLen; simp [kPg], ⟨by unfold maxLen; simp [kPg], ?_⟩, ⟨by unfold maxLen; simp [kPg], ?_⟩, ⟨by unfold maxLen; simp [kPg], ?_⟩, ⟨by unfold maxLen; simp [kPg], ?_⟩⟩
  · intro v hv; simp [kPg] at hv; subst hv; exact one _
  · intro v hv; simp [kPg] at hv; subst hv; exact one _
  · intro v hv; simp [kPg] at hv; subst hv; exact one _
  · intro q hq
    simp only [kPg, List.mem_cons, List.not_mem_nil, or_false] at hq
    rcases hq with rfl | rfl
    · exact ⟨by unfold maxLen; simp, f1, f2 _⟩
    · exact ⟨by unfold maxLen; simp, z, f3⟩
theorem k_few : Few kPg := by refine ⟨?_, ?_, ?_, ?_⟩ <;> simp [kPg]
set_option maxRecDepth 100000 in
set_option maxHeartbeats 8000000 in
theorem known_any (w : World) : Calls Try.prog 11 #[] w fun e w' => e = .returned (.bool true) ∧ Below w.heap.size w w' := by
  have H1 := Lib.hid (fun W => parse_any kText (by unfold maxLen; simp [kText]) W)
  rw [k_parse] at H1
  have H2 := Lib.hid (fun W => parse_any [110, 111, 100, 101, 32, 102] (by unfold maxLen; simp) W)
  rw [k_short] at H2
  have H3 := Lib.hid (fun L K W h => print_any kPg L K W h k_fit k_few)
  rw [k_print] at H3
  have ea : ∀ L, pgAgg kPg L = .agg #[.string ⟨#[102]⟩, .slice L.ai 1 L.ci, .slice L.ao 1 L.co, .slice L.al 1 L.cl, .slice L.ae 2 L.ce] := fun L => rfl
  have ez : ∀ L, pgAgg Pg.zero L = .agg #[.string ⟨#[]⟩, .slice L.ai 0 L.ci, .slice L.ao 0 L.co, .slice L.al 0 L.cl, .slice L.ae 0 L.ce] := fun L => rfl
  unfold ParsePost at H1 H2
  dsimp only at H1 H2 H3
  simp only [ea] at H1 H3
  simp only [ez] at H2
  unfold kText at *
  clear ea ez
  go_enter Try.func11, Try.ntmps11
  go_wp2_with fail
  refine (H1.out _).mono ?_
  rintro e w1 ⟨L, rfl, hp, hb1⟩
  obtain ⟨b, off, AF, cF, AE, cE, e1, -, -, hc⟩ := hp.eqs 0 (by simp [kPg])
  have hc1 := hc 1 _ rfl
  have hbl := World.block_lt_of_cell? _ _ hc1
  simp only [kPg, List.getElem_cons_zero, Nat.zero_mul, Nat.add_zero] at hc1 hbl
  obtain ⟨ai, ci, ao, co, al, cl, ae, ce⟩ := L
  dsimp only at e1 ⊢
  subst e1
  have HPA := Lib.hid hp
  have HB1 := Lib.hid hb1
  have HC1 := Lib.hid hc1
  clear hp hb1 hc hc1
  go_wp2_with fail
  obtain ⟨W2, hW2⟩ : ∃ W2, W2 = w1.alloc (.cells #[.string ⟨#[102]⟩, .slice ai 1 ci, .slice ao 1 co, .slice al 1 cl, .slice (some ⟨b, off, none⟩) 2 ce] 26) := ⟨_, rfl⟩
  rw [← hW2]
  have hb2 : Below w1.heap.size w1 W2 := by rw [hW2]; exact (Below.refl _ _).alloc (Nat.le_refl _) _
  have HP2 : Hid (W2.heap[w1.heap.size]? = some (.cells #[.string ⟨#[102]⟩, .slice ai 1 ci, .slice ao 1 co, .slice al 1 cl, .slice (some ⟨b, off, none⟩) 2 ce] 26 (0, 0))) := by rw [hW2]; exact heap_alloc_new _ _
  have hs2 : w1.heap.size < W2.heap.size := by rw [hW2]; simp
  have HPA2 := Lib.hid (HPA.out.below hb2)
  have HB2 := Lib.hid (HB1.out.trans (hb2.mono HB1.out.size))
  have HC2 := Lib.hid ((hb2.cell (p := ⟨b, off + 1, none⟩) hbl).trans HC1.out)
  clear hW2 hb2 HPA HB1 HC1
  refine (H3.out _ _ _ HPA2.out).mono ?_
  rintro e w3 ⟨rfl, hb3⟩
  have HP3 := Lib.hid ((hb3.block _ hs2).trans HP2.out)
  have HB3 := Lib.hid (HB2.out.trans (hb3.mono HB2.out.size))
  have HC3 := Lib.hid ((hb3.cell (p := ⟨b, off + 1, none⟩) (by simp only; omega)).trans HC2.out)
  have hs3 := hb3.size
  clear hb3 HP2 HB2 HC2 HPA2
  go_wp2_with fail
  refine (H2.out _).mono ?_
  rintro e w4 ⟨L4, rfl, -, hb4⟩
  have hp4 := (hb4.block _ (by omega)).trans HP3.out
  have HB4 := Lib.hid (HB3.out.trans (hb4.mono HB3.out.size))
  have hc4 := (hb4.cell (p := ⟨b, off + 1, none⟩) (by simp only; omega)).trans HC3.out
  have hs4 := hb4.size
  clear hb4 HP3 HB3 HC3 H1 H2 H3
  go_upto_region 5 with (fail)
  obtain ⟨W5, hW5⟩ : ∃ W, W = w4.alloc (.cells #[.string ⟨#[]⟩, .slice L4.ai 0 L4.ci, .slice L4.ao 0 L4.co, .slice L4.al 0 L4.cl, .slice L4.ae 0 L4.ce] 26) := ⟨_, rfl⟩
  rw [← hW5]
  have hb5 : Below w4.heap.size w4 W5 := by rw [hW5]; exact (Below.refl _ _).alloc (Nat.le_refl _) _
  have hp5 := (hb5.block _ (by omega)).trans hp4
  have hc5 := (hb5.cell (p := ⟨b, off + 1, none⟩) (by simp only; omega)).trans hc4
  have HB5 := Lib.hid (HB4.out.trans (hb5.mono HB4.out.size))
  clear hW5 hb5 hp4 hc4
  obtain ⟨⟨n1, n2, n3, n4⟩, -⟩ := row5 hp5
  clear hp5
  go_wp2_with fail
  go_ret
  exact ⟨rfl, HB5.out⟩
end Go.Proofs.Ytilkilffkjhhbaa
