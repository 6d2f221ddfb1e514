/-
  The walk of the law JudgeWider: what is accepted in a frame is accepted in any wider one, with the same report.
-/
import Derived.Test.YtlfbpcjeohbfkaaJuL
namespace Go.Proofs.Ytlfbpcjeohbfkaa
open Go.RowKit Mem

theorem maxif (a b : Int) : (if a < b then b else a) = max a b := by rw [Int.max_def]; split <;> split <;> omega
set_option maxRecDepth 100000 in
set_option maxHeartbeats 8000000 in
theorem judgeWider_walk (w : World) (A : Option Addr) (c : Nat) (l : List Ia.Ins) (hA : InsArg w A c l) (f : Ju.Fr) (_hf : In64 f.sl ∧ In64 f.ol ∧ In64 f.nw ∧ In64 f.is ∧ In64 f.os) (m : Ju.Fr) (_hm : In64 m.sl ∧ In64 m.ol ∧ In64 m.nw ∧ In64 m.is ∧ In64 m.os) :
    Calls Try.prog 6 #[.slice A l.length c, frAgg f, frAgg m] w fun e w' => e = .returned (.bool true) ∧ Below w.heap.size w w' := by
  obtain ⟨hA1, hA2, hA3⟩ := hA
  by_cases h1 : l.length ≤ 600
  · have HA := Lib.hid (ISrc.at_ hA1)
    have hnr : ∀ k (h : k < l.length), -2147483648 ≤ (l[k]'h).n ∧ (l[k]'h).n ≤ 2147483647 := fun k h => (hA2 k h).2
    obtain ⟨g, hg⟩ : ∃ g : Ju.Fr, g = ⟨max f.sl m.sl, max f.ol m.ol, max f.nw m.nw, max f.is m.is, max f.os m.os⟩ := ⟨_, rfl⟩
    have m0 : (if f.sl < m.sl then m.sl else f.sl) = g.sl := by rw [hg, maxif]
    have m1 : (if f.ol < m.ol then m.ol else f.ol) = g.ol := by rw [hg, maxif]
    have m2 : (if f.nw < m.nw then m.nw else f.nw) = g.nw := by rw [hg, maxif]
    have m3 : (if f.is < m.is then m.is else f.is) = g.is := by rw [hg, maxif]
    have m4 : (if f.os < m.os then m.os else f.os) = g.os := by rw [hg, maxif]
    have hwd : Wider f g := by rw [hg]; exact ⟨Int.le_max_left _ _, Int.le_max_left _ _, Int.le_max_left _ _, Int.le_max_left _ _, Int.le_max_left _ _⟩
    have HC1 := Lib.hid (fun (W : World) (h : InsAt W A l) => jcheck f l A c W h (by omega) hnr)
    have HC2 := Lib.hid (fun (W : World) (h : InsAt W A l) => jcheck g l A c W h (by omega) hnr)
    have HFG := Lib.hid (fun (W : World) => jframe g W)
    have HWI := Lib.hid (fun (h : (Ju.check f l).er = 0) (h2 : Ju.okFr g = true) => check_wider h hwd h2)
    have HBD := Lib.hid (fun (h : Ju.okFr g = false) => check_bad l h)
    unfold frAgg at *
    clear hA1 hA2 hA3 hnr hg hwd
    go_enter Try.func6, Try.ntmps6
    go_wp2_with fail
    obtain ⟨W0, hW0⟩ : ∃ W0, W0 = (w.alloc (.cells #[.int .i64 f.sl, .int .i64 f.ol, .int .i64 f.nw, .int .i64 f.is, .int .i64 f.os] 24)).alloc (.cells #[.int .i64 m.sl, .int .i64 m.ol, .int .i64 m.nw, .int .i64 m.is, .int .i64 m.os] 24) := ⟨_, rfl⟩
    rw [← hW0]
    have HF0 : Hid (W0.heap[w.heap.size]? = some (.cells #[.int .i64 f.sl, .int .i64 f.ol, .int .i64 f.nw, .int .i64 f.is, .int .i64 f.os] 24 (0, 0))) := by unfold RowKit.Hid; rw [hW0]; exact heap_alloc2_old _ _ _
    have HM0 : Hid (W0.heap[w.heap.size + 1]? = some (.cells #[.int .i64 m.sl, .int .i64 m.ol, .int .i64 m.nw, .int .i64 m.is, .int .i64 m.os] 24 (0, 0))) := by unfold RowKit.Hid; rw [hW0]; exact heap_alloc2_new _ _ _
    have HB0 : Hid (Below w.heap.size w W0) := by unfold RowKit.Hid; rw [hW0]; exact ((Below.refl _ _).alloc (Nat.le_refl _) _).alloc (by simp) _
    clear hW0
    refine (HC1.out W0 (HA.out.below HB0.out (Nat.le_refl _))).mono ?_
    rintro e w1 ⟨r1, hr1, rfl, hb1⟩
    have HR1 := Lib.hid hr1
    have HF1 := Lib.hid ((hb1.block _ (Array.getElem?_eq_some_iff.1 HF0.out).1).trans HF0.out)
    have HM1 := Lib.hid ((hb1.block _ (Array.getElem?_eq_some_iff.1 HM0.out).1).trans HM0.out)
    have HB1 := Lib.hid (HB0.out.trans (hb1.mono HB0.out.size))
    have hz1 : w.heap.size + 1 < w1.heap.size := (Array.getElem?_eq_some_iff.1 HM1.out).1
    have hz1b : w.heap.size < w1.heap.size := by omega
    have cf0 : w1.cell? ⟨w.heap.size, 0, none⟩ = some (.int .i64 f.sl) := cell_of_row _ _ 0 _ _ (0, 0) HF1.out
    have cf1 : w1.cell? ⟨w.heap.size, 1, none⟩ = some (.int .i64 f.ol) := cell_of_row _ _ 1 _ _ (0, 0) HF1.out
    have cf2 : w1.cell? ⟨w.heap.size, 2, none⟩ = some (.int .i64 f.nw) := cell_of_row _ _ 2 _ _ (0, 0) HF1.out
    have cf3 : w1.cell? ⟨w.heap.size, 3, none⟩ = some (.int .i64 f.is) := cell_of_row _ _ 3 _ _ (0, 0) HF1.out
    have cf4 : w1.cell? ⟨w.heap.size, 4, none⟩ = some (.int .i64 f.os) := cell_of_row _ _ 4 _ _ (0, 0) HF1.out
    have cm0 : w1.cell? ⟨w.heap.size + 1, 0, none⟩ = some (.int .i64 m.sl) := cell_of_row _ _ 0 _ _ (0, 0) HM1.out
    have cm1 : w1.cell? ⟨w.heap.size + 1, 1, none⟩ = some (.int .i64 m.ol) := cell_of_row _ _ 1 _ _ (0, 0) HM1.out
    have cm2 : w1.cell? ⟨w.heap.size + 1, 2, none⟩ = some (.int .i64 m.nw) := cell_of_row _ _ 2 _ _ (0, 0) HM1.out
    have cm3 : w1.cell? ⟨w.heap.size + 1, 3, none⟩ = some (.int .i64 m.is) := cell_of_row _ _ 3 _ _ (0, 0) HM1.out
    have cm4 : w1.cell? ⟨w.heap.size + 1, 4, none⟩ = some (.int .i64 m.os) := cell_of_row _ _ 4 _ _ (0, 0) HM1.out
    clear hb1 hr1 HF0 HM0 HB0
    go_wp2_with fail
    obtain ⟨W1, hW1⟩ : ∃ W1, W1 = (w1.alloc (.cells #[.int .i64 r1.dp, .int .i64 r1.fu] 28)).alloc (.cells #[.int .i64 g.sl, .int .i64 g.ol, .int .i64 g.nw, .int .i64 g.is, .int .i64 g.os] 24) := ⟨_, rfl⟩
    rw [← hW1]
    have HP1 : Hid (W1.heap[w1.heap.size]? = some (.cells #[.int .i64 r1.dp, .int .i64 r1.fu] 28 (0, 0))) := by unfold RowKit.Hid; rw [hW1]; exact heap_alloc2_old _ _ _
    have HG1 : Hid (W1.heap[w1.heap.size + 1]? = some (.cells #[.int .i64 g.sl, .int .i64 g.ol, .int .i64 g.nw, .int .i64 g.is, .int .i64 g.os] 24 (0, 0))) := by unfold RowKit.Hid; rw [hW1]; exact heap_alloc2_new _ _ _
    have HBx : Hid (Below w1.heap.size w1 W1) := by unfold RowKit.Hid; rw [hW1]; exact ((Below.refl _ _).alloc (Nat.le_refl _) _).alloc (by simp) _
    have HBy := Lib.hid (HB1.out.trans (HBx.out.mono HB1.out.size))
    clear hW1 m0 m1 m2 m3 m4
    refine (HC2.out W1 (HA.out.below HBy.out (Nat.le_refl _))).mono ?_
    rintro e w2 ⟨r2, hr2, rfl, hb2⟩
    have HR2 := Lib.hid hr2
    have HP2 := Lib.hid ((hb2.block _ (Array.getElem?_eq_some_iff.1 HP1.out).1).trans HP1.out)
    have HG2 := Lib.hid ((hb2.block _ (Array.getElem?_eq_some_iff.1 HG1.out).1).trans HG1.out)
    have HB2 := Lib.hid (HBy.out.trans (hb2.mono HBy.out.size))
    have hz2 : w1.heap.size + 1 < w2.heap.size := (Array.getElem?_eq_some_iff.1 HG2.out).1
    have hz2b : w1.heap.size < w2.heap.size := by omega
    have cg0 : w2.cell? ⟨w1.heap.size + 1, 0, none⟩ = some (.int .i64 g.sl) := cell_of_row _ _ 0 _ _ (0, 0) HG2.out
    have cg1 : w2.cell? ⟨w1.heap.size + 1, 1, none⟩ = some (.int .i64 g.ol) := cell_of_row _ _ 1 _ _ (0, 0) HG2.out
    have cg2 : w2.cell? ⟨w1.heap.size + 1, 2, none⟩ = some (.int .i64 g.nw) := cell_of_row _ _ 2 _ _ (0, 0) HG2.out
    have cg3 : w2.cell? ⟨w1.heap.size + 1, 3, none⟩ = some (.int .i64 g.is) := cell_of_row _ _ 3 _ _ (0, 0) HG2.out
    have cg4 : w2.cell? ⟨w1.heap.size + 1, 4, none⟩ = some (.int .i64 g.os) := cell_of_row _ _ 4 _ _ (0, 0) HG2.out
    clear hb2 hr2 HP1 HG1 HBx HBy
    go_wp2_with fail
    obtain ⟨W2, hW2⟩ : ∃ W2, W2 = w2.alloc (.cells #[.int .i64 r2.dp, .int .i64 r2.fu] 28) := ⟨_, rfl⟩
    rw [← hW2]
    have HQ2 : Hid (W2.heap[w2.heap.size]? = some (.cells #[.int .i64 r2.dp, .int .i64 r2.fu] 28 (0, 0))) := by unfold RowKit.Hid; rw [hW2]; exact heap_alloc_new _ _
    have HPx : Hid (W2.heap[w1.heap.size]? = some (.cells #[.int .i64 r1.dp, .int .i64 r1.fu] 28 (0, 0))) := by unfold RowKit.Hid; rw [hW2]; exact (heap_alloc_old _ _ hz2b).trans HP2.out
    have HBx : Hid (Below w.heap.size w W2) := by unfold RowKit.Hid; rw [hW2]; exact HB2.out.alloc HB2.out.size _
    clear hW2
    refine (HFG.out W2).mono ?_
    rintro e w3 ⟨rfl, hb3⟩
    have HQ3 := Lib.hid ((hb3.block _ (Array.getElem?_eq_some_iff.1 HQ2.out).1).trans HQ2.out)
    have HP3 := Lib.hid ((hb3.block _ (Array.getElem?_eq_some_iff.1 HPx.out).1).trans HPx.out)
    have HB3 := Lib.hid (HBx.out.trans (hb3.mono HBx.out.size))
    have cp0 : w3.cell? ⟨w1.heap.size, 0, none⟩ = some (.int .i64 r1.dp) := cell_of_row _ _ 0 _ _ (0, 0) HP3.out
    have cp1 : w3.cell? ⟨w1.heap.size, 1, none⟩ = some (.int .i64 r1.fu) := cell_of_row _ _ 1 _ _ (0, 0) HP3.out
    have cq0 : w3.cell? ⟨w2.heap.size, 0, none⟩ = some (.int .i64 r2.dp) := cell_of_row _ _ 0 _ _ (0, 0) HQ3.out
    have cq1 : w3.cell? ⟨w2.heap.size, 1, none⟩ = some (.int .i64 r2.fu) := cell_of_row _ _ 1 _ _ (0, 0) HQ3.out
    clear hb3 HQ2 HPx HBx
    cases hok : Ju.okFr g with
    | false =>
      have he : frErr g = 1 := by unfold frErr; rw [hok]; rfl
      have h21 : r2.er = 1 := by rw [HR2.out]; exact HBD.out hok
      rw [he]
      clear hok he
      go_wp2_with fail
      refine (known_any _).mono ?_
      rintro e w8 ⟨rfl, hb8⟩
      have HB8 := Lib.hid (HB3.out.trans (hb8.mono HB3.out.size))
      clear hb8
      go_wp2_with fail
      go_ret
      exact ⟨rfl, HB8.out⟩
    | true =>
      have he : frErr g = 0 := by unfold frErr; rw [hok]; rfl
      rw [he]
      by_cases hr : r1.er = 0
      · have h21 : r2 = r1 := by rw [HR2.out, HR1.out]; exact HWI.out (by rw [← HR1.out]; exact hr) hok
        subst h21
        clear hok he
        go_wp2_with fail
        refine (known_any _).mono ?_
        rintro e w8 ⟨rfl, hb8⟩
        have HB8 := Lib.hid (HB3.out.trans (hb8.mono HB3.out.size))
        clear hb8
        go_wp2_with fail
        go_ret
        exact ⟨rfl, HB8.out⟩
      · have hr2 : (r1.er != 0) = true := by simpa using hr
        clear hok he
        go_wp2_with fail
        refine (known_any _).mono ?_
        rintro e w8 ⟨rfl, hb8⟩
        have HB8 := Lib.hid (HB3.out.trans (hb8.mono HB3.out.size))
        clear hb8
        go_wp2_with fail
        go_ret
        exact ⟨rfl, HB8.out⟩
  · unfold frAgg
    go_enter Try.func6, Try.ntmps6
    go_wp2_with fail
    refine (known_any _).mono ?_
    rintro e w8 ⟨rfl, hb8⟩
    go_wp2_with fail
    go_ret
    exact ⟨rfl, (((Below.refl _ _).alloc (Nat.le_refl _) _).alloc (by simp) _).trans (hb8.mono (by simp; omega))⟩
end Go.Proofs.Ytlfbpcjeohbfkaa
