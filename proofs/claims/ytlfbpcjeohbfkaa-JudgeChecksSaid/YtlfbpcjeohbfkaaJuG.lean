/-
  What is told of a code, by the package judge: the walk of Check.
-/
import Derived.Test.YtlfbpcjeohbfkaaJuF
namespace Go.Proofs.Ytlfbpcjeohbfkaa
open Go.RowKit Mem

theorem infoPlace : (Try.prog.info? 52).map (fun i => (i.zero, i.size, i.bytes)) = some (some (.agg #[.bool false, .int .i64 0, .int .i64 0]), 3, 24) := by kernel_rfl
theorem made_places (n : Nat) : madeCells (Value.agg #[.bool false, .int .i64 0, .int .i64 0]).cells ((n + 1) * 3) = plCells n (fun _ => none) := by
  refine pl_ext n _ _ (by rw [size_madeCells]; omega) (fun j hj => ?_)
  have hz : (Value.agg #[.bool false, .int .i64 0, .int .i64 0]).cells = #[.bool false, .int .i64 0, .int .i64 0] := rfl
  unfold madeCells
  rw [hz, Array.getElem?_map, Array.getElem?_range, if_pos (by omega)]
  unfold cellOf
  have h3 : j % 3 = 0 ∨ j % 3 = 1 ∨ j % 3 = 2 := by omega
  rcases h3 with h | h | h
  · simp [h]
  · simp [h]
  · simp [h]
theorem make_places (n : Nat) (hn : n ≤ 600) (w : World) : (Instr.makeSlice 48 (.int .i64 ((n : Int) + 1)) (.int .i64 ((n : Int) + 1))).run Try.prog w = .ok (.slice (some ⟨w.heap.size, 0, none⟩) (n + 1) (n + 1)) (w.alloc (.cells (plCells n (fun _ => none)) 52)) := by
  obtain ⟨i, hi, hz, hs, hb⟩ := info_parts infoPlace
  have := run_make (P := Try.prog) w 48 52 i _ Try.underlying48 hi hz .i64 .i64 ((n : Int) + 1) ((n : Int) + 1) (by omega) (by omega) (by rw [hb]; omega) (by omega)
  have e : ((n : Int) + 1).toNat = n + 1 := by omega
  rw [this, e, hs, made_places]
theorem pl_first (n : Nat) : (plCells n (fun _ => none)).setIfInBounds 0 (.bool true) = plCells n Ju.first := by
  refine pl_ext n _ _ (by simp [pl_size]) (fun j hj => ?_)
  by_cases h0 : j = 0
  · subst h0
    rw [Array.getElem?_setIfInBounds_self_of_lt (by rw [pl_size]; omega)]
    rfl
  · rw [Array.getElem?_setIfInBounds_ne (by omega), pl_get n _ j hj]
    unfold cellOf Ju.first
    by_cases h3 : j / 3 = 0
    · have hm : ¬ j % 3 = 0 := by omega
      rw [if_pos h3]
      dsimp only
      rw [if_neg hm, if_neg hm]
      split <;> rfl
    · rw [if_neg h3]
theorem ret_rep {fn : Func} {R : Ending → World → Prop} {a : Act} {W : World} {g : Nat} {v0 v1 x y : Value} (s t u : Nat) (hr : fn.results = #[.cell s 28, .tmp t, .tmp u])
    (h2 : a.tmps.getD s undef = .pointer (some ⟨g, 0, none⟩)) (h3 : a.tmps.getD t undef = x) (h4 : a.tmps.getD u undef = y) (hd : a.defers = [])
    (c0 : W.cell? ⟨g, 0, none⟩ = some v0) (c1 : W.cell? ⟨g, 1, none⟩ = some v1)
    (hR : R (.returned (.tuple #[.agg #[v0, v1], x, y])) W) : bodyPost Try.prog fn R .ret a W := by
  refine bodyPost_ret ?_ hd hR
  have h2' : a.tmps[s]?.getD undef = .pointer (some ⟨g, 0, none⟩) := by simpa using h2
  have h3' : a.tmps[t]?.getD undef = x := by simpa using h3
  have h4' : a.tmps[u]?.getD undef = y := by simpa using h4
  simp [results, hr, h2', h3', h4', go_sem, c0, c1]
theorem rep_row2 {W : World} {g : Nat} {t : TypeId} {a b : Value} (h : W.heap[g]? = some (.cells #[a, b] t (0, 0))) (u v : Value) (o : Obj) : (((W.setCell ⟨g, 0, none⟩ u).setCell ⟨g, 1, none⟩ v).alloc o).heap[g]? = some (.cells #[u, v] t (0, 0)) := by
  have h0 := heap_setCell_same _ g 0 _ t u h
  have h1 := heap_setCell_same _ g 1 _ t v h0
  rw [heap_alloc_old _ _ (Array.getElem?_eq_some_iff.1 h1).1, h1]
  simp only [List.setIfInBounds_toArray, List.set_cons_zero, List.set_cons_succ]
def JPost (fr : Ju.Fr) (l : List Ia.Ins) (w : World) (e : Ending) (w' : World) : Prop :=
  ∃ r, r = Ju.check fr l ∧ e = .returned (.tuple #[.agg #[.int .i64 r.dp, .int .i64 r.fu], .int .i64 r.er, .int .i64 r.at_]) ∧ Below w.heap.size w w'
theorem check_run {fr : Ju.Fr} {l : List Ia.Ins} (h1 : Ju.okFr fr = true) (h2 : ¬ 600 < l.length) : Ju.check fr l = Ju.run fr l.length l 0 Ju.first 0 := by
  unfold Ju.check; rw [if_neg (by rw [h1]; decide), if_neg h2]
theorem run_step {fr : Ju.Fr} {l : List Ia.Ins} {k : Nat} (h : k < l.length) {s S : Ju.St} {top E D : Int} (hs : Ju.step fr l.length (l[k]'h) k s = (E, S, D)) : Ju.run fr l.length (l.drop k) k s top = if E ≠ 0 then ⟨0, 0, E, k⟩ else Ju.run fr l.length (l.drop (k + 1)) (k + 1) S (max top D) := by
  rw [List.drop_eq_getElem_cons h, Ju.run, hs]
set_option maxRecDepth 100000 in
set_option maxHeartbeats 8000000 in
theorem jcheck (fr : Ju.Fr) (l : List Ia.Ins) (A : Option Addr) (c : Nat) (w : World) (hA : InsAt w A l) (hn : l.length ≤ 4611686018427387904) (hr : ∀ k (h : k < l.length), -2147483648 ≤ (l[k]'h).n ∧ (l[k]'h).n ≤ 2147483647) :
    Calls Try.prog 10 #[.slice A l.length c, frAgg fr] w fun e w' => JPost fr l w e w' := by
  have HA := Lib.hid hA
  have HR := Lib.hid hr
  have HFR := Lib.hid (fun (W : World) => jframe fr W)
  unfold frAgg at *
  clear hA hr
  by_cases hok : Ju.okFr fr = true
  · have HOK := Lib.hid hok
    have he : frErr fr = 0 := by unfold frErr; rw [if_pos hok]
    rw [he] at HFR
    clear hok he
    by_cases hbig : 600 < l.length
    · have HE : Hid (⟨0, 0, 3, 0⟩ = Ju.check fr l) := by unfold RowKit.Hid Ju.check; rw [if_neg (by rw [HOK.out]; decide), if_pos hbig]
      go_enter Try.func10, Try.ntmps10
      go_wp2_with fail
      obtain ⟨W0, hW0⟩ : ∃ W0, W0 = (w.alloc (.cells #[.int .i64 fr.sl, .int .i64 fr.ol, .int .i64 fr.nw, .int .i64 fr.is, .int .i64 fr.os] 24)).alloc (.cells #[.int .i64 0, .int .i64 0] 28) := ⟨_, rfl⟩
      rw [← hW0]
      have HF0 : Hid (W0.heap[w.heap.size]? = some (.cells #[.int .i64 fr.sl, .int .i64 fr.ol, .int .i64 fr.nw, .int .i64 fr.is, .int .i64 fr.os] 24 (0, 0))) := by unfold RowKit.Hid; rw [hW0]; exact heap_alloc2_old _ _ _
      have HR0 : Hid (W0.heap[w.heap.size + 1]? = some (.cells #[.int .i64 0, .int .i64 0] 28 (0, 0))) := by unfold RowKit.Hid; rw [hW0]; exact heap_alloc2_new _ _ _
      have HB0 : Hid (Below w.heap.size w W0) := by unfold RowKit.Hid; rw [hW0]; exact ((Below.refl _ _).alloc (Nat.le_refl _) _).alloc (by simp) _
      clear hW0
      refine (HFR.out _).mono ?_
      rintro e w1 ⟨rfl, hb1⟩
      have HF1 := Lib.hid ((hb1.block _ (Array.getElem?_eq_some_iff.1 HF0.out).1).trans HF0.out)
      have HR1 := Lib.hid ((hb1.block _ (Array.getElem?_eq_some_iff.1 HR0.out).1).trans HR0.out)
      have HB1 := Lib.hid (HB0.out.trans (hb1.mono HB0.out.size))
      clear hb1 HF0 HR0 HB0
      have cr0 : w1.cell? ⟨w.heap.size + 1, 0, none⟩ = some (.int .i64 0) := cell_of_row _ _ 0 _ _ (0, 0) HR1.out
      have cr1 : w1.cell? ⟨w.heap.size + 1, 1, none⟩ = some (.int .i64 0) := cell_of_row _ _ 1 _ _ (0, 0) HR1.out
      have fr0 : w1.frozen? ⟨w.heap.size + 1, 0, none⟩ = false := frozen_of_row _ _ _ _ _ HR1.out
      have fr1 : w1.frozen? ⟨w.heap.size + 1, 1, none⟩ = false := frozen_of_row _ _ _ _ _ HR1.out
      go_wp2_with fail
      refine ret_rep (v0 := .int .i64 0) (v1 := .int .i64 0) 4 5 6 rfl rfl rfl rfl rfl ?_ ?_ ?_
      · simp [go_sem, cr0]
      · simp [go_sem, cr1]
      exact ⟨_, HE.out, rfl, (HB1.out.setCell (by dsimp only; omega) _).setCell (by dsimp only; omega) _⟩
    · have HCR := Lib.hid (check_run HOK.out hbig)
      have hn6 : l.length ≤ 600 := by omega
      have hmk := make_places l.length hn6
      have hp0 : (plCells l.length (fun _ => none))[0]? = some (.bool false) := pl_get _ _ 0 (by omega)
      have HPF := Lib.hid (pl_first l.length)
      generalize plCells l.length (fun _ => none) = pz at *
      go_enter Try.func10, Try.ntmps10
      go_wp2_with fail
      obtain ⟨W0, hW0⟩ : ∃ W0, W0 = (w.alloc (.cells #[.int .i64 fr.sl, .int .i64 fr.ol, .int .i64 fr.nw, .int .i64 fr.is, .int .i64 fr.os] 24)).alloc (.cells #[.int .i64 0, .int .i64 0] 28) := ⟨_, rfl⟩
      rw [← hW0]
      have HF0 : Hid (W0.heap[w.heap.size]? = some (.cells #[.int .i64 fr.sl, .int .i64 fr.ol, .int .i64 fr.nw, .int .i64 fr.is, .int .i64 fr.os] 24 (0, 0))) := by unfold RowKit.Hid; rw [hW0]; exact heap_alloc2_old _ _ _
      have HR0 : Hid (W0.heap[w.heap.size + 1]? = some (.cells #[.int .i64 0, .int .i64 0] 28 (0, 0))) := by unfold RowKit.Hid; rw [hW0]; exact heap_alloc2_new _ _ _
      have HB0 : Hid (Below w.heap.size w W0) := by unfold RowKit.Hid; rw [hW0]; exact ((Below.refl _ _).alloc (Nat.le_refl _) _).alloc (by simp) _
      clear hW0
      refine (HFR.out _).mono ?_
      rintro e w1 ⟨rfl, hb1⟩
      have HF1 := Lib.hid ((hb1.block _ (Array.getElem?_eq_some_iff.1 HF0.out).1).trans HF0.out)
      have HR1 := Lib.hid ((hb1.block _ (Array.getElem?_eq_some_iff.1 HR0.out).1).trans HR0.out)
      have HB1 := Lib.hid (HB0.out.trans (hb1.mono HB0.out.size))
      clear hb1 HF0 HR0 HB0
      go_wp2_with fail
      rw [HPF.out]
      obtain ⟨W2, hW2⟩ : ∃ W2, W2 = (w1.alloc (.cells (plCells l.length Ju.first) 52)).alloc (.cells #[.slice (some ⟨w1.heap.size, 0, none⟩) (l.length + 1) (l.length + 1), .int .i64 0, .int .i64 0] 50) := ⟨_, rfl⟩
      rw [← hW2]
      have HP2 : Hid (PlAt W2 w1.heap.size l.length Ju.first) := by unfold RowKit.Hid; rw [hW2]; exact heap_alloc2_old _ _ _
      have HW2 : Hid (WkAt W2 (w1.heap.size + 1) w1.heap.size l.length 0 0) := by unfold RowKit.Hid; rw [hW2]; exact heap_alloc2_new _ _ _
      have HB2 : Hid (Below w1.heap.size w1 W2) := by unfold RowKit.Hid; rw [hW2]; exact ((Below.refl _ _).alloc (Nat.le_refl _) _).alloc (by simp) _
      have hlf : w.heap.size + 1 < w1.heap.size := (Array.getElem?_eq_some_iff.1 HR1.out).1
      clear hW2 hmk hp0 HPF HFR
      go_loopw [37] (fun i wr => ∃ (k : Nat) (s : Ju.St) (top : Int), k ≤ l.length ∧ i = .int .i64 k ∧ Hid (Ju.check fr l = Ju.run fr l.length (l.drop k) k s top) ∧ Hid (StOk l.length k s) ∧ Hid (WkAt wr (w1.heap.size + 1) w1.heap.size l.length top 0) ∧ Hid (PlAt wr w1.heap.size l.length s) ∧ Hid (Below w1.heap.size w1 wr)) (fun i _ => l.length - (intOf i).toNat)
      case atStart => exact ⟨0, Ju.first, 0, Nat.zero_le _, rfl, HCR, st_first _, HW2, HP2, HB2⟩
      case round =>
        obtain ⟨k, s, top, hk, rfl, hrun, hst, hW, hP, hB⟩ := hrel
        have HFr := Lib.hid ((hB.out.block _ (by omega)).trans HF1.out)
        have HRr := Lib.hid ((hB.out.block _ (by omega)).trans HR1.out)
        have hzr : w1.heap.size + 1 < wr.heap.size := (Array.getElem?_eq_some_iff.1 hW.out).1
        have hzw : w.heap.size < wr.heap.size := by omega
        have hzw1 : w.heap.size + 1 < wr.heap.size := by omega
        have hzp : w1.heap.size < wr.heap.size := by omega
        have cf0 : wr.cell? ⟨w.heap.size, 0, none⟩ = some (.int .i64 fr.sl) := cell_of_row _ _ 0 _ _ (0, 0) HFr.out
        have cf1 : wr.cell? ⟨w.heap.size, 1, none⟩ = some (.int .i64 fr.ol) := cell_of_row _ _ 1 _ _ (0, 0) HFr.out
        have cf2 : wr.cell? ⟨w.heap.size, 2, none⟩ = some (.int .i64 fr.nw) := cell_of_row _ _ 2 _ _ (0, 0) HFr.out
        have cf3 : wr.cell? ⟨w.heap.size, 3, none⟩ = some (.int .i64 fr.is) := cell_of_row _ _ 3 _ _ (0, 0) HFr.out
        have cf4 : wr.cell? ⟨w.heap.size, 4, none⟩ = some (.int .i64 fr.os) := cell_of_row _ _ 4 _ _ (0, 0) HFr.out
        by_cases hlt : k < l.length
        · obtain ⟨b, off, rfl, c0, c1⟩ := (HA.out.below HB1.out (Nat.le_refl _)).below hB.out (Nat.le_refl _) k hlt
          have hq := HR.out k hlt
          have HQ1 := Lib.hid hq.1
          have HQ2 := Lib.hid hq.2
          have HRS := Lib.hid (fun (S : Ju.St) (E D : Int) (hs : Ju.step fr l.length (l[k]'hlt) k s = (E, S, D)) => hrun.out.trans (run_step hlt (top := top) hs))
          have HSS := Lib.hid (fun (S : Ju.St) (D : Int) (hs : Ju.step fr l.length (l[k]'hlt) k s = (0, S, D)) => step_st hs hst.out hlt)
          clear hq hrun
          generalize l[k]'hlt = ins at *
          have r0 : (0 : Int) ≤ k := by omega
          have r1 : (k : Int) < (l.length : Int) := by omega
          go_wp2_with fail
          have HWa : Hid (WkAt (wr.alloc (.cells #[.int .i64 ins.op, .int .i32 ins.n] 40)) (w1.heap.size + 1) w1.heap.size l.length top 0) := (heap_alloc_old _ _ hzr).trans hW.out
          have HPa : Hid (PlAt (wr.alloc (.cells #[.int .i64 ins.op, .int .i32 ins.n] 40)) w1.heap.size l.length s) := (heap_alloc_old _ _ (by omega)).trans hP.out
          refine (jone fr l.length k ins s (w1.heap.size + 1) w1.heap.size w1.heap.size top 0 _ hlt hn6 HQ1.out HQ2.out (fun d f h => by have := hst.out.1 k d f h; omega) HWa.out HPa.out (by omega) (Nat.le_refl _) (by omega)).mono ?_
          rintro e w4 ⟨E, S, D, rfl, hstep, hb4, hkeep⟩
          have HB4 := Lib.hid ((hB.out.alloc (by omega) _).trans hb4)
          clear hb4 cf0 cf1 cf2 cf3 cf4 c0 c1 HWa HPa hW hP
          by_cases hE : E = 0
          · subst hE
            have HRN : Hid (Ju.check fr l = Ju.run fr l.length (l.drop (k + 1)) (k + 1) S (max top D)) := (HRS.out _ _ _ hstep).trans (if_neg (by simp))
            have HSN := Lib.hid (HSS.out _ _ hstep).1
            have HK1 := Lib.hid (hkeep rfl).1
            have HK2 := Lib.hid (hkeep rfl).2
            clear hkeep hstep HRS HSS
            go_wp2_with fail
            go_roundw
            case rel => exact ⟨k + 1, S, max top D, by omega, by go_num, HRN, HSN, HK1, HK2, HB4⟩
            case measure => simp [intOf]; omega
          · have HE : Hid (⟨0, 0, E, k⟩ = Ju.check fr l) := ((HRS.out _ _ _ hstep).trans (if_pos hE)).symm
            have hne : (E != 0) = true := by simpa using hE
            have HR4 := Lib.hid ((HB4.out.block _ (by omega)).trans HR1.out)
            have HB5 := Lib.hid (HB1.out.trans (HB4.out.mono HB1.out.size))
            clear hkeep hstep HRS HSS
            have cr0 : w4.cell? ⟨w.heap.size + 1, 0, none⟩ = some (.int .i64 0) := cell_of_row _ _ 0 _ _ (0, 0) HR4.out
            have cr1 : w4.cell? ⟨w.heap.size + 1, 1, none⟩ = some (.int .i64 0) := cell_of_row _ _ 1 _ _ (0, 0) HR4.out
            have fr0 : w4.frozen? ⟨w.heap.size + 1, 0, none⟩ = false := frozen_of_row _ _ _ _ _ HR4.out
            have fr1 : w4.frozen? ⟨w.heap.size + 1, 1, none⟩ = false := frozen_of_row _ _ _ _ _ HR4.out
            go_wp2_with fail
            refine ret_rep (v0 := .int .i64 0) (v1 := .int .i64 0) 4 5 6 rfl rfl rfl rfl rfl ?_ ?_ ?_
            · simp [go_sem, cr0]
            · simp [go_sem, cr1]
            exact ⟨_, HE.out, rfl, (HB5.out.setCell (by dsimp only; omega) _).setCell (by dsimp only; omega) _⟩
        · obtain rfl : k = l.length := by omega
          have hrn := hrun.out
          rw [List.drop_length] at hrn
          obtain ⟨v, hv⟩ := Option.isSome_iff_exists.1 (hst.out.2 rfl)
          obtain ⟨d, fu⟩ := v
          unfold Ju.run at hrn
          rw [hv] at hrn
          dsimp only at hrn
          have HRN := Lib.hid hrn
          obtain ⟨e0, e1, e2⟩ := cellOf_some hv
          have p0 := hP.out.cell (l.length * 3) (by omega)
          have p1 := hP.out.cell (l.length * 3 + 1) (by omega)
          have p2 := hP.out.cell (l.length * 3 + 2) (by omega)
          rw [e0] at p0
          rw [e1] at p1
          rw [e2] at p2
          dsimp only at p1 p2
          obtain ⟨cw0, cw1, cw2⟩ := hW.out.cell
          have fw2 : wr.frozen? ⟨w1.heap.size + 1, 2, none⟩ = false := frozen_of_row _ _ _ _ _ hW.out
          have HB5 := Lib.hid (HB1.out.trans (hB.out.mono HB1.out.size))
          clear hrn hv e0 e1 e2 hrun
          have cr0 : wr.cell? ⟨w.heap.size + 1, 0, none⟩ = some (.int .i64 0) := cell_of_row _ _ 0 _ _ (0, 0) HRr.out
          have cr1 : wr.cell? ⟨w.heap.size + 1, 1, none⟩ = some (.int .i64 0) := cell_of_row _ _ 1 _ _ (0, 0) HRr.out
          have fr0 : wr.frozen? ⟨w.heap.size + 1, 0, none⟩ = false := frozen_of_row _ _ _ _ _ HRr.out
          have fr1 : wr.frozen? ⟨w.heap.size + 1, 1, none⟩ = false := frozen_of_row _ _ _ _ _ HRr.out
          by_cases hd : d = 0
          · subst hd
            have HE : Hid (⟨top, fu, 0, 0⟩ = Ju.check fr l) := (HRN.out.trans (if_pos rfl)).symm
            go_wp2_with fail
            have hrow := rep_row2 ((heap_setCell_other wr ⟨w1.heap.size + 1, 2, none⟩ (w.heap.size + 1) (.int .i64 fu) (by dsimp only; omega)).trans HRr.out) (.int .i64 top) (.int .i64 fu) (.cells #[.bool true, .int .i64 0, .int .i64 fu] 52)
            refine ret_rep (v0 := .int .i64 top) (v1 := .int .i64 fu) 4 5 6 rfl rfl rfl rfl rfl (cell_of_row _ _ 0 _ _ (0, 0) hrow) (cell_of_row _ _ 1 _ _ (0, 0) hrow) ?_
            exact ⟨_, HE.out, rfl, (((HB5.out.setCell (by dsimp only; omega) _).setCell (by dsimp only; omega) _).setCell (by dsimp only; omega) _).alloc (by simp; omega) _⟩
          · have HE : Hid (⟨0, 0, 12, l.length⟩ = Ju.check fr l) := (HRN.out.trans (if_neg hd)).symm
            have hne : (d != 0) = true := by simpa using hd
            go_wp2_with fail
            have hrow := rep_row2 (HRr.out) (.int .i64 0) (.int .i64 0) (.cells #[.bool true, .int .i64 d, .int .i64 fu] 52)
            refine ret_rep (v0 := .int .i64 0) (v1 := .int .i64 0) 4 5 6 rfl rfl rfl rfl rfl (cell_of_row _ _ 0 _ _ (0, 0) hrow) (cell_of_row _ _ 1 _ _ (0, 0) hrow) ?_
            exact ⟨_, HE.out, rfl, ((HB5.out.setCell (by dsimp only; omega) _).setCell (by dsimp only; omega) _).alloc (by simp; omega) _⟩
  · have he : frErr fr = 1 := by unfold frErr; rw [if_neg hok]
    rw [he] at HFR
    have HE : Hid (⟨0, 0, 1, 0⟩ = Ju.check fr l) := by unfold RowKit.Hid Ju.check; rw [if_pos (by simpa using hok)]
    clear hok he
    go_enter Try.func10, Try.ntmps10
    go_wp2_with fail
    obtain ⟨W0, hW0⟩ : ∃ W0, W0 = (w.alloc (.cells #[.int .i64 fr.sl, .int .i64 fr.ol, .int .i64 fr.nw, .int .i64 fr.is, .int .i64 fr.os] 24)).alloc (.cells #[.int .i64 0, .int .i64 0] 28) := ⟨_, rfl⟩
    rw [← hW0]
    have HF0 : Hid (W0.heap[w.heap.size]? = some (.cells #[.int .i64 fr.sl, .int .i64 fr.ol, .int .i64 fr.nw, .int .i64 fr.is, .int .i64 fr.os] 24 (0, 0))) := by unfold RowKit.Hid; rw [hW0]; exact heap_alloc2_old _ _ _
    have HR0 : Hid (W0.heap[w.heap.size + 1]? = some (.cells #[.int .i64 0, .int .i64 0] 28 (0, 0))) := by unfold RowKit.Hid; rw [hW0]; exact heap_alloc2_new _ _ _
    have HB0 : Hid (Below w.heap.size w W0) := by unfold RowKit.Hid; rw [hW0]; exact ((Below.refl _ _).alloc (Nat.le_refl _) _).alloc (by simp) _
    clear hW0
    refine (HFR.out _).mono ?_
    rintro e w1 ⟨rfl, hb1⟩
    have HF1 := Lib.hid ((hb1.block _ (Array.getElem?_eq_some_iff.1 HF0.out).1).trans HF0.out)
    have HR1 := Lib.hid ((hb1.block _ (Array.getElem?_eq_some_iff.1 HR0.out).1).trans HR0.out)
    have HB1 := Lib.hid (HB0.out.trans (hb1.mono HB0.out.size))
    clear hb1 HF0 HR0 HB0
    have cr0 : w1.cell? ⟨w.heap.size + 1, 0, none⟩ = some (.int .i64 0) := cell_of_row _ _ 0 _ _ (0, 0) HR1.out
    have cr1 : w1.cell? ⟨w.heap.size + 1, 1, none⟩ = some (.int .i64 0) := cell_of_row _ _ 1 _ _ (0, 0) HR1.out
    have fr0 : w1.frozen? ⟨w.heap.size + 1, 0, none⟩ = false := frozen_of_row _ _ _ _ _ HR1.out
    have fr1 : w1.frozen? ⟨w.heap.size + 1, 1, none⟩ = false := frozen_of_row _ _ _ _ _ HR1.out
    go_wp2_with fail
    refine ret_rep (v0 := .int .i64 0) (v1 := .int .i64 0) 4 5 6 rfl rfl rfl rfl rfl ?_ ?_ ?_
    · simp [go_sem, cr0]
    · simp [go_sem, cr1]
    exact ⟨_, HE.out, rfl, (HB1.out.setCell (by dsimp only; omega) _).setCell (by dsimp only; omega) _⟩
end Go.Proofs.Ytlfbpcjeohbfkaa
