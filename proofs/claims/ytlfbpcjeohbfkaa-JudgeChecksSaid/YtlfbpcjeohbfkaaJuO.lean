/-
  A frame by value, opened; what must come of the fixed calls of the layer judge.
-/
import Derived.Test.YtlfbpcjeohbfkaaJuG
import Derived.Test.YtlfbpcjeohbfkaaOpenI
namespace Go.Proofs.Ytlfbpcjeohbfkaa
open Go.RowKit Go.ChangeShapes Go.WideShapes Go.Deep Mem

theorem array5 {α : Type} {cs : Array α} (h : cs.size = 5) : ∃ c0 c1 c2 c3 c4, cs = #[c0, c1, c2, c3, c4] := by
  obtain ⟨l⟩ := cs
  match l, h with
  | [c0, c1, c2, c3, c4], _ => exact ⟨c0, c1, c2, c3, c4, rfl⟩
theorem list5 {α : Type} {cs : List α} (h : cs.length = 5) : ∃ c0 c1 c2 c3 c4, cs = [c0, c1, c2, c3, c4] := by
  match cs, h with
  | [c0, c1, c2, c3, c4], _ => exact ⟨c0, c1, c2, c3, c4, rfl⟩
def In64 (n : Int) : Prop := -9223372036854775808 ≤ n ∧ n ≤ 9223372036854775807
theorem open_frame {H : Type} {enc : TypeId × Value → H} {w : World} {b0 : Nat} {spare : Nat → Bool} {held : Bool} {r : Reach} {v : Value} {d : DataW H} {p : List MemPlace}
    (hv : Value.okWide Try.prog w r b0 24 v) (h : DataW.Trod enc Try.prog w 0 spare held 24 v d p) (_hsz : ∀ n ∈ d.weights Try.prog 24, n ≤ reachBytes) :
    ∃ (f : Ju.Fr), v = frAgg f ∧ (In64 f.sl ∧ In64 f.ol ∧ In64 f.nw ∧ In64 f.is ∧ In64 f.os) := by
  obtain ⟨cs, rfl, hsz⟩ := okWide_struct Try.underlying24 hv
  have hC : Try.prog.cellsOf 24 = 5 := by kernel_rfl
  have hI : Try.prog.cellsOf 3 = 1 := by kernel_rfl
  obtain ⟨c0, c1, c2, c3, c4, rfl⟩ := array5 (hsz.trans hC)
  obtain ⟨fuel, hf⟩ := h
  obtain ⟨xs, n, _, _, _, hlen, hg⟩ := DataW.trod_struct Try.underlying24 hf
  obtain ⟨y0, y1, y2, y3, y4, rfl⟩ := list5 hlen
  have g0 : DataW.trod enc Try.prog w 0 spare held n 3 (([c0, c1, c2, c3, c4].drop 0).take (Try.prog.cellsOf 3)) = some y0 := hg 0 _ rfl
  rw [hI] at g0
  have g1 : DataW.trod enc Try.prog w 0 spare held n 3 (([c0, c1, c2, c3, c4].drop 1).take (Try.prog.cellsOf 3)) = some y1 := hg 1 _ rfl
  rw [hI] at g1
  have g2 : DataW.trod enc Try.prog w 0 spare held n 3 (([c0, c1, c2, c3, c4].drop 2).take (Try.prog.cellsOf 3)) = some y2 := hg 2 _ rfl
  rw [hI] at g2
  have g3 : DataW.trod enc Try.prog w 0 spare held n 3 (([c0, c1, c2, c3, c4].drop 3).take (Try.prog.cellsOf 3)) = some y3 := hg 3 _ rfl
  rw [hI] at g3
  have g4 : DataW.trod enc Try.prog w 0 spare held n 3 (([c0, c1, c2, c3, c4].drop 4).take (Try.prog.cellsOf 3)) = some y4 := hg 4 _ rfl
  rw [hI] at g4
  obtain ⟨n0, e0, _, w0⟩ := DataW.trod_int Try.underlying3 g0
  obtain ⟨n1, e1, _, w1⟩ := DataW.trod_int Try.underlying3 g1
  obtain ⟨n2, e2, _, w2⟩ := DataW.trod_int Try.underlying3 g2
  obtain ⟨n3, e3, _, w3⟩ := DataW.trod_int Try.underlying3 g3
  obtain ⟨n4, e4, _, w4⟩ := DataW.trod_int Try.underlying3 g4
  simp at e0 e1 e2 e3 e4
  subst e0 e1 e2 e3 e4
  exact ⟨⟨n0, n1, n2, n3, n4⟩, rfl, wf64 w0, wf64 w1, wf64 w2, wf64 w3, wf64 w4⟩
def kFr : Ju.Fr := ⟨0, 0, 0, 1, 1⟩
def kIns : List Ia.Ins := [⟨6, 0⟩, ⟨11, 2⟩, ⟨1, 7⟩, ⟨7, 0⟩]
def kIns2 : List Ia.Ins := [⟨1, 1⟩]
theorem k_one : Ju.check kFr kIns = ⟨1, 4, 0, 0⟩ := by kernel_rfl
theorem k_two : Ju.check kFr kIns2 = ⟨0, 0, 12, 1⟩ := by kernel_rfl
theorem insAt_new {W : World} {l : List Ia.Ins} {g : Nat} {t : TypeId} {cs : Array Value} (h : W.heap[g]? = some (.cells cs t (0, 0))) (hc : cs = (insCells l).toArray) : InsAt W (some ⟨g, 0, none⟩) l := by
  intro k hk
  subst hc
  obtain ⟨h0, h1⟩ := insCells_at l k hk
  refine ⟨g, 0, rfl, ?_, ?_⟩
  · rw [Nat.zero_add, cell_of_row W g (k * 2) _ _ (0, 0) h, List.getElem?_toArray]; exact h0
  · rw [Nat.zero_add, cell_of_row W g (k * 2 + 1) _ _ (0, 0) h, List.getElem?_toArray]; exact h1
theorem kcheck1 (w : World) (g : Nat) (h : w.heap[g]? = some (.cells #[.int .i64 6, .int .i32 0, .int .i64 11, .int .i32 2, .int .i64 1, .int .i32 7, .int .i64 7, .int .i32 0] 40 (0, 0))) :
    Calls Try.prog 10 #[.slice (some ⟨g, 0, none⟩) 4 4, .agg #[.int .i64 0, .int .i64 0, .int .i64 0, .int .i64 1, .int .i64 1]] w fun e w' => e = .returned (.tuple #[.agg #[.int .i64 1, .int .i64 4], .int .i64 0, .int .i64 0]) ∧ Below w.heap.size w w' := by
  refine (jcheck kFr kIns (some ⟨g, 0, none⟩) 4 w (insAt_new h rfl) (by decide) (by decide)).mono ?_
  rintro e w' ⟨r, hr, he, hb⟩
  rw [k_one] at hr
  subst hr
  exact ⟨he, hb⟩
theorem kcheck2 (w : World) (g : Nat) (h : w.heap[g]? = some (.cells #[.int .i64 1, .int .i32 1] 40 (0, 0))) :
    Calls Try.prog 10 #[.slice (some ⟨g, 0, none⟩) 1 1, .agg #[.int .i64 0, .int .i64 0, .int .i64 0, .int .i64 1, .int .i64 1]] w fun e w' => e = .returned (.tuple #[.agg #[.int .i64 0, .int .i64 0], .int .i64 12, .int .i64 1]) ∧ Below w.heap.size w w' := by
  refine (jcheck kFr kIns2 (some ⟨g, 0, none⟩) 1 w (insAt_new h rfl) (by decide) (by decide)).mono ?_
  rintro e w' ⟨r, hr, he, hb⟩
  rw [k_two] at hr
  subst hr
  exact ⟨he, hb⟩
theorem kframe (w : World) : Calls Try.prog 12 #[.agg #[.int .i64 0, .int .i64 0, .int .i64 0, .int .i64 1, .int .i64 1]] w fun e w' => e = .returned (.int .i64 0) ∧ Below w.heap.size w w' := jframe kFr w
set_option maxRecDepth 100000 in
set_option maxHeartbeats 4000000 in
theorem known_any (w : World) : Calls Try.prog 8 #[] w fun e w' => e = .returned (.bool true) ∧ Below w.heap.size w w' := by
  go_enter Try.func8, Try.ntmps8
  go_wp2_with fail
  obtain ⟨W0, hW0⟩ : ∃ W0, W0 = (w.alloc (.cells #[.int .i64 0, .int .i64 0, .int .i64 0, .int .i64 1, .int .i64 1] 24)).alloc (.cells #[.int .i64 6, .int .i32 0, .int .i64 11, .int .i32 2, .int .i64 1, .int .i32 7, .int .i64 7, .int .i32 0] 40) := ⟨_, rfl⟩
  rw [← hW0]
  have HF0 : Hid (W0.heap[w.heap.size]? = some (.cells #[.int .i64 0, .int .i64 0, .int .i64 0, .int .i64 1, .int .i64 1] 24 (0, 0))) := by unfold RowKit.Hid; rw [hW0]; exact heap_alloc2_old _ _ _
  have hI0 : W0.heap[w.heap.size + 1]? = some (.cells #[.int .i64 6, .int .i32 0, .int .i64 11, .int .i32 2, .int .i64 1, .int .i32 7, .int .i64 7, .int .i32 0] 40 (0, 0)) := by rw [hW0]; exact heap_alloc2_new _ _ _
  have HB0 : Hid (Below w.heap.size w W0) := by unfold RowKit.Hid; rw [hW0]; exact ((Below.refl _ _).alloc (Nat.le_refl _) _).alloc (by simp) _
  clear hW0
  refine (kcheck1 W0 (w.heap.size + 1) hI0).mono ?_
  clear hI0
  rintro e w1 ⟨rfl, hb1⟩
  have HF1 := Lib.hid ((hb1.block _ (Array.getElem?_eq_some_iff.1 HF0.out).1).trans HF0.out)
  have HB1 := Lib.hid (HB0.out.trans (hb1.mono HB0.out.size))
  have hz1 : w.heap.size < w1.heap.size := (Array.getElem?_eq_some_iff.1 HF1.out).1
  have cfw10 : w1.cell? ⟨w.heap.size, 0, none⟩ = some (.int .i64 0) := cell_of_row _ _ 0 _ _ (0, 0) HF1.out
  have cfw11 : w1.cell? ⟨w.heap.size, 1, none⟩ = some (.int .i64 0) := cell_of_row _ _ 1 _ _ (0, 0) HF1.out
  have cfw12 : w1.cell? ⟨w.heap.size, 2, none⟩ = some (.int .i64 0) := cell_of_row _ _ 2 _ _ (0, 0) HF1.out
  have cfw13 : w1.cell? ⟨w.heap.size, 3, none⟩ = some (.int .i64 1) := cell_of_row _ _ 3 _ _ (0, 0) HF1.out
  have cfw14 : w1.cell? ⟨w.heap.size, 4, none⟩ = some (.int .i64 1) := cell_of_row _ _ 4 _ _ (0, 0) HF1.out
  clear hb1 HF0 HB0
  go_wp2_with fail
  obtain ⟨W1, hW1⟩ : ∃ W1, W1 = (w1.alloc (.cells #[.int .i64 1, .int .i64 4] 28)).alloc (.cells #[.int .i64 1, .int .i32 1] 40) := ⟨_, rfl⟩
  rw [← hW1]
  have HR0 : Hid (W1.heap[w1.heap.size]? = some (.cells #[.int .i64 1, .int .i64 4] 28 (0, 0))) := by unfold RowKit.Hid; rw [hW1]; exact heap_alloc2_old _ _ _
  have hI1 : W1.heap[w1.heap.size + 1]? = some (.cells #[.int .i64 1, .int .i32 1] 40 (0, 0)) := by rw [hW1]; exact heap_alloc2_new _ _ _
  have HBx : Hid (Below w1.heap.size w1 W1) := by unfold RowKit.Hid; rw [hW1]; exact ((Below.refl _ _).alloc (Nat.le_refl _) _).alloc (by simp) _
  clear hW1
  refine (kcheck2 W1 (w1.heap.size + 1) hI1).mono ?_
  clear hI1
  rintro e w2 ⟨rfl, hb2⟩
  have hbx := HBx.out.trans (hb2.mono HBx.out.size)
  have HF2 := Lib.hid ((hbx.block _ hz1).trans HF1.out)
  have HR2 := Lib.hid ((hb2.block _ (Array.getElem?_eq_some_iff.1 HR0.out).1).trans HR0.out)
  have HB2 := Lib.hid (HB1.out.trans (hbx.mono HB1.out.size))
  have hz2 : w.heap.size < w2.heap.size := (Array.getElem?_eq_some_iff.1 HF2.out).1
  have hz3 : w1.heap.size < w2.heap.size := (Array.getElem?_eq_some_iff.1 HR2.out).1
  have cfw20 : w2.cell? ⟨w.heap.size, 0, none⟩ = some (.int .i64 0) := cell_of_row _ _ 0 _ _ (0, 0) HF2.out
  have cfw21 : w2.cell? ⟨w.heap.size, 1, none⟩ = some (.int .i64 0) := cell_of_row _ _ 1 _ _ (0, 0) HF2.out
  have cfw22 : w2.cell? ⟨w.heap.size, 2, none⟩ = some (.int .i64 0) := cell_of_row _ _ 2 _ _ (0, 0) HF2.out
  have cfw23 : w2.cell? ⟨w.heap.size, 3, none⟩ = some (.int .i64 1) := cell_of_row _ _ 3 _ _ (0, 0) HF2.out
  have cfw24 : w2.cell? ⟨w.heap.size, 4, none⟩ = some (.int .i64 1) := cell_of_row _ _ 4 _ _ (0, 0) HF2.out
  have cr0 : w2.cell? ⟨w1.heap.size, 0, none⟩ = some (.int .i64 1) := cell_of_row _ _ 0 _ _ (0, 0) HR2.out
  have cr1 : w2.cell? ⟨w1.heap.size, 1, none⟩ = some (.int .i64 4) := cell_of_row _ _ 1 _ _ (0, 0) HR2.out
  clear hb2 hbx HBx HF1 HR0 HB1
  go_wp2_with fail
  refine (kframe _).mono ?_
  rintro e w3 ⟨rfl, hb3⟩
  have HB3 : Hid (Below w.heap.size w w3) := (HB2.out.alloc HB2.out.size _).trans (hb3.mono (by have := HB2.out.size; simp; omega))
  clear hb3
  go_wp2_with fail
  go_ret
  exact ⟨rfl, HB3.out⟩
end Go.Proofs.Ytlfbpcjeohbfkaa
