/-
  An instruction at a place, by the method one of judge's walk.
-/
import Derived.Test.YtlfbpcjeohbfkaaJuD
namespace Go.Proofs.Ytlfbpcjeohbfkaa
open Go.RowKit Mem

theorem takes_le (op : Int) : 0 ≤ Ju.takes op ∧ Ju.takes op ≤ 2 ∧ 0 ≤ Ju.gives op ∧ Ju.gives op ≤ 1 := by
  unfold Ju.takes Ju.gives
  refine ⟨?_, ?_, ?_, ?_⟩ <;> (repeat' split) <;> decide
theorem right_n {i : Ia.Ins} (h : Ia.right i = 0) (hj : Ju.jumps i.op = true) : 0 ≤ i.n ∧ i.n ≤ 65535 := by
  unfold Ia.right at h
  unfold Ju.jumps at hj
  simp only [Bool.or_eq_true, beq_iff_eq] at hj
  unfold Ia.form Ia.most at h
  repeat' split at h
  all_goals (try omega)
theorem WkAt.below {w w' : World} {g0 g1 n B : Nat} {top fu : Int} (h : WkAt w g0 g1 n top fu) (hb : Below B w w') (hg : g0 < B) : WkAt w' g0 g1 n top fu := (hb.block _ hg).trans h
theorem PlAt.below {w w' : World} {g1 n B : Nat} {s : Ju.St} (h : PlAt w g1 n s) (hb : Below B w w') (hg : g1 < B) : PlAt w' g1 n s := (hb.block _ hg).trans h
theorem jcome2 (n t : Nat) (T d f : Int) (hT : T = (t : Int)) (s : Ju.St) (g0 g1 : Nat) (top fu : Int) (w : World) (ht : t ≤ n) (hn : n ≤ 600) (h0 : WkAt w g0 g1 n top fu) (h1 : PlAt w g1 n s) :
    Calls Try.prog 24 #[.pointer (some ⟨g0, 0, none⟩), .int .i64 T, .int .i64 d, .int .i64 f] w fun e w' => ∃ (q : Bool) (r : Option Ju.St), Ju.come s t d f = r ∧ q = r.isSome ∧ e = .returned (.bool q) ∧ w.grownBy w' (some g1) ∧ PlAt w' g1 n (r.getD s) := by
  subst hT
  exact (jcome n t d f s g0 g1 top fu w ht hn h0 h1).mono fun e w' ⟨he, hg, hp⟩ => ⟨_, _, rfl, rfl, he, hg, hp⟩
theorem kept_row {w w' : World} {g g1 : Nat} {o : Obj} (h : w.heap[g]? = some o) (hg : w.grownBy w' (some g1)) (hne : g ≠ g1) : w'.heap[g]? = some o :=
  (hg.block _ (Array.getElem?_eq_some_iff.1 h).1 (fun e => hne (Option.some.inj e))).trans h
/-- what comes of an instruction at a place -/
def OnePost (fr : Ju.Fr) (n k : Nat) (i : Ia.Ins) (s : Ju.St) (g0 g1 B : Nat) (top fu : Int) (w : World) (e : Ending) (w' : World) : Prop :=
  ∃ E S D, e = .returned (.int .i64 E) ∧ Ju.step fr n i k s = (E, S, D) ∧ Below B w w' ∧ (E = 0 → WkAt w' g0 g1 n (max top D) fu ∧ PlAt w' g1 n S)
set_option maxRecDepth 100000 in
set_option maxHeartbeats 8000000 in
theorem jone (fr : Ju.Fr) (n k : Nat) (i : Ia.Ins) (s : Ju.St) (g0 g1 B : Nat) (top fu : Int) (w : World) (hk : k < n) (hn : n ≤ 600) (hi1 : -2147483648 ≤ i.n) (hi2 : i.n ≤ 2147483647)
    (hs : ∀ d f, s k = some (d, f) → 0 ≤ d ∧ d ≤ 16 ∧ 0 ≤ f ∧ f ≤ 600) (h0 : WkAt w g0 g1 n top fu) (h1 : PlAt w g1 n s) (hB0 : B ≤ g0) (hB1 : B ≤ g1) (hne : g0 ≠ g1) :
    Calls Try.prog 18 #[.pointer (some ⟨g0, 0, none⟩), .agg #[.int .i64 i.op, .int .i32 i.n], .int .i64 k, .agg #[.int .i64 fr.sl, .int .i64 fr.ol, .int .i64 fr.nw, .int .i64 fr.is, .int .i64 fr.os]] w
      fun e w' => OnePost fr n k i s g0 g1 B top fu w e w' := by
  have hl0 : g0 < w.heap.size := (Array.getElem?_eq_some_iff.1 h0).1
  have hl1 : g1 < w.heap.size := (Array.getElem?_eq_some_iff.1 h1).1
  have HWK := Lib.hid h0
  have HPL := Lib.hid h1
  have HRI := Lib.hid (fun (W : World) => isaright i W)
  by_cases hr : Ia.right i = 0
  · have HRZ := Lib.hid hr
    rw [hr] at HRI
    obtain ⟨c0, hc0⟩ : ∃ c, c = cellOf s (k * 3) := ⟨_, rfl⟩
    obtain ⟨c1, hc1⟩ : ∃ c, c = cellOf s (k * 3 + 1) := ⟨_, rfl⟩
    obtain ⟨c2, hc2⟩ : ∃ c, c = cellOf s (k * 3 + 2) := ⟨_, rfl⟩
    have HO : Hid (c0.oneCell' = true ∧ c1.oneCell' = true ∧ c2.oneCell' = true) := by
      unfold RowKit.Hid
      rw [hc0, hc1, hc2]
      cases hsk : s k with
      | none => obtain ⟨e0, e1, e2⟩ := cellOf_none hsk; rw [e0, e1, e2]; exact ⟨rfl, rfl, rfl⟩
      | some v => obtain ⟨e0, e1, e2⟩ := cellOf_some hsk; rw [e0, e1, e2]; exact ⟨rfl, rfl, rfl⟩
    have HC0 := Lib.hid hc0
    have HC1 := Lib.hid hc1
    have HC2 := Lib.hid hc2
    clear h0 h1 hc0 hc1 hc2
    go_enter Try.func18, Try.ntmps18
    go_wp2_with fail
    obtain ⟨W0, hW0⟩ : ∃ W0, W0 = (w.alloc (.cells #[.int .i64 i.op, .int .i32 i.n] 40)).alloc (.cells #[.int .i64 fr.sl, .int .i64 fr.ol, .int .i64 fr.nw, .int .i64 fr.is, .int .i64 fr.os] 24) := ⟨_, rfl⟩
    rw [← hW0]
    have HI0 : Hid (W0.heap[w.heap.size]? = some (.cells #[.int .i64 i.op, .int .i32 i.n] 40 (0, 0))) := by unfold RowKit.Hid; rw [hW0]; exact heap_alloc2_old _ _ _
    have HF0 : Hid (W0.heap[w.heap.size + 1]? = some (.cells #[.int .i64 fr.sl, .int .i64 fr.ol, .int .i64 fr.nw, .int .i64 fr.is, .int .i64 fr.os] 24 (0, 0))) := by unfold RowKit.Hid; rw [hW0]; exact heap_alloc2_new _ _ _
    have HB0 : Hid (Below w.heap.size w W0) := by unfold RowKit.Hid; rw [hW0]; exact ((Below.refl _ _).alloc (Nat.le_refl _) _).alloc (by simp) _
    have HZ0 : Hid (W0.heap.size = w.heap.size + 2) := by unfold RowKit.Hid; rw [hW0]; simp
    clear hW0
    refine (HRI.out W0).mono ?_
    rintro e w1 ⟨rfl, hb1⟩
    have HI1 := Lib.hid ((hb1.block _ (Array.getElem?_eq_some_iff.1 HI0.out).1).trans HI0.out)
    have HF1 := Lib.hid ((hb1.block _ (Array.getElem?_eq_some_iff.1 HF0.out).1).trans HF0.out)
    have HB1 := Lib.hid (HB0.out.trans (hb1.mono HB0.out.size))
    clear hb1
    go_upto_region 4 with fail
    refine wp_region_any (by kernel_rfl) ?_
    refine wpAny_by (ops' := jone4Ops) (by kernel_rfl) ?_
    refine jone4Region _ w1 ?hs fr n k i c0 c1 c2 w.heap.size (w.heap.size + 1) g0 g1 top fu (by omega) HO.out HI1.out HF1.out (HWK.out.below HB1.out hl0) (by rw [HC0.out]; exact (HPL.out.below HB1.out hl1).cell _ (by omega)) (by rw [HC1.out]; exact (HPL.out.below HB1.out hl1).cell _ (by omega)) (by rw [HC2.out]; exact (HPL.out.below HB1.out hl1).cell _ (by omega)) rfl rfl rfl rfl ?_
    case hs => simp
    rintro vs w4 hb4 ⟨_, _, _, hre, hrp, hnv⟩
    have hre := hre rfl
    have hrp := hrp rfl
    have hnv := hnv rfl rfl
    rw [if_pos rfl] at hre hrp
    obtain ⟨ga, va, hga, hra⟩ := hre
    obtain ⟨gb, vb, hgb, hrb⟩ := hrp
    have hgab : ga ≠ gb := fun e => hnv (by rw [va, vb, e])
    simp only [jone4Slots, List.foldl_cons, List.foldl_nil]
    simp only [jone4Val]
    simp only [Act.put, List.setIfInBounds_toArray, List.set_cons_zero, List.set_cons_succ]
    rw [va, vb]
    clear va vb hnv
    have HB4 := Lib.hid (HB1.out.trans (hb4.mono HB1.out.size))
    have HI4 := Lib.hid ((hb4.block _ (Array.getElem?_eq_some_iff.1 HI1.out).1).trans HI1.out)
    have HRA4 := Lib.hid hra
    have HRB4 := Lib.hid hrb
    have HW4 := Lib.hid (HWK.out.below HB4.out hl0)
    have HP4 := Lib.hid (HPL.out.below HB4.out hl1)
    have hz1 : w.heap.size + 2 ≤ w1.heap.size := by have := HZ0.out; have := (Array.getElem?_eq_some_iff.1 HF1.out).1; omega
    have hla : ga < w4.heap.size := (Array.getElem?_eq_some_iff.1 hra).1
    have hlb : gb < w4.heap.size := (Array.getElem?_eq_some_iff.1 hrb).1
    have hza : w.heap.size + 2 ≤ ga := by omega
    have hzb : w.heap.size + 2 ≤ gb := by omega
    clear hb4 hra hrb hga hgb HI0 HF0 HZ0 HB0 HI1 HF1 HRI
    obtain ⟨ht1, ht2, ht3, ht4⟩ := takes_le i.op
    have HTK : Hid (∃ tk gv rm, tk = Ju.takes i.op ∧ gv = Ju.gives i.op ∧ rm = Ju.room i.op fr) := ⟨_, _, _, rfl, rfl, rfl⟩
    have HSR := fun h2 => Ju.step_room (f := fr) (n := n) (k := k) (s := s) HRZ.out h2
    have HS13 := fun h2 h3 => Ju.step_reach (f := fr) (n := n) (k := k) (s := s) HRZ.out h2 h3
    have HS12 := fun d0 f0 h2 h3 h4 => Ju.step_stack (f := fr) (n := n) (k := k) (s := s) (d0 := d0) (f0 := f0) HRZ.out h2 h3 h4
    have HS11 := fun d0 f0 h2 h3 h4 h5 => Ju.step_jump (f := fr) (n := n) (k := k) (s := s) (d0 := d0) (f0 := f0) HRZ.out h2 h3 h4 h5
    have HSC1 := fun d0 f0 h2 h3 h4 h5 h6 => Ju.step_c1 (f := fr) (n := n) (k := k) (s := s) (d0 := d0) (f0 := f0) HRZ.out h2 h3 h4 h5 h6
    have HSC2 := fun d0 f0 s1 h2 h3 h4 h5 h6 h7 => Ju.step_c2 (f := fr) (n := n) (k := k) (s := s) (s1 := s1) (d0 := d0) (f0 := f0) HRZ.out h2 h3 h4 h5 h6 h7
    have HSOK := fun d0 f0 s1 s2 h2 h3 h4 h5 h6 h7 => Ju.step_ok (f := fr) (n := n) (k := k) (s := s) (s1 := s1) (s2 := s2) (d0 := d0) (f0 := f0) HRZ.out h2 h3 h4 h5 h6 h7
    generalize Ju.takes i.op = tk at *
    generalize Ju.gives i.op = gv at *
    generalize Ju.room i.op fr = rm at *
    have HSR := Lib.hid HSR
    have HS13 := Lib.hid HS13
    have HS12 := Lib.hid HS12
    have HS11 := Lib.hid HS11
    have HSC1 := Lib.hid HSC1
    have HSC2 := Lib.hid HSC2
    have HSOK := Lib.hid HSOK
    clear HTK
    cases hsk : s k with
    | none =>
      obtain ⟨e0, e1, e2⟩ := cellOf_none hsk
      obtain rfl := HC0.out.trans e0
      obtain rfl := HC1.out.trans e1
      obtain rfl := HC2.out.trans e2
      have HK := Lib.hid hsk
      clear e0 e1 e2 HC0 HC1 HC2 hsk hs HO
      have ci0 : w4.cell? ⟨w.heap.size, 0, none⟩ = some (.int .i64 i.op) := cell_of_row _ _ 0 _ _ (0, 0) HI4.out
      have ci1 : w4.cell? ⟨w.heap.size, 1, none⟩ = some (.int .i32 i.n) := cell_of_row _ _ 1 _ _ (0, 0) HI4.out
      have ca0 : w4.cell? ⟨ga, 0, none⟩ = some (.int .i64 tk) := cell_of_row _ _ 0 _ _ (0, 0) HRA4.out
      have ca1 : w4.cell? ⟨ga, 1, none⟩ = some (.int .i64 gv) := cell_of_row _ _ 1 _ _ (0, 0) HRA4.out
      have ca2 : w4.cell? ⟨ga, 2, none⟩ = some (.int .i64 rm) := cell_of_row _ _ 2 _ _ (0, 0) HRA4.out
      have cb0 : w4.cell? ⟨gb, 0, none⟩ = some (.bool false) := cell_of_row _ _ 0 _ _ (0, 0) HRB4.out
      have cb1 : w4.cell? ⟨gb, 1, none⟩ = some (.int .i64 0) := cell_of_row _ _ 1 _ _ (0, 0) HRB4.out
      have cb2 : w4.cell? ⟨gb, 2, none⟩ = some (.int .i64 0) := cell_of_row _ _ 2 _ _ (0, 0) HRB4.out
      obtain ⟨cw0, cw1, cw2⟩ := HW4.out.cell
      by_cases hrm : 0 ≤ rm
      · by_cases hrn : rm ≤ i.n
        · skip
          have HS : Hid (Ju.step fr n i k s = (10, _, 0)) := HSR.out ⟨hrm, hrn⟩
          go_wp2_with fail
          go_ret
          exact ⟨_, _, _, rfl, HS.out, HB4.out.mono (by omega), fun h => absurd h (by decide)⟩
        · skip
          have HS : Hid (Ju.step fr n i k s = (13, _, 0)) := HS13.out (fun h => hrn h.2) HK.out
          go_wp2_with fail
          go_ret
          exact ⟨_, _, _, rfl, HS.out, HB4.out.mono (by omega), fun h => absurd h (by decide)⟩
      · skip
        have HS : Hid (Ju.step fr n i k s = (13, _, 0)) := HS13.out (fun h => hrm h.1) HK.out
        go_wp2_with fail
        go_ret
        exact ⟨_, _, _, rfl, HS.out, HB4.out.mono (by omega), fun h => absurd h (by decide)⟩
    | some v =>
      obtain ⟨d0, f0⟩ := v
      obtain ⟨e0, e1, e2⟩ := cellOf_some hsk
      obtain rfl := HC0.out.trans e0
      obtain rfl := HC1.out.trans e1
      obtain rfl := HC2.out.trans e2
      obtain ⟨b1, b2, b3, b4⟩ := hs d0 f0 hsk
      have HK := Lib.hid hsk
      dsimp only at HRB4
      clear e0 e1 e2 HC0 HC1 HC2 hsk hs HO
      have ci0 : w4.cell? ⟨w.heap.size, 0, none⟩ = some (.int .i64 i.op) := cell_of_row _ _ 0 _ _ (0, 0) HI4.out
      have ci1 : w4.cell? ⟨w.heap.size, 1, none⟩ = some (.int .i32 i.n) := cell_of_row _ _ 1 _ _ (0, 0) HI4.out
      have ca0 : w4.cell? ⟨ga, 0, none⟩ = some (.int .i64 tk) := cell_of_row _ _ 0 _ _ (0, 0) HRA4.out
      have ca1 : w4.cell? ⟨ga, 1, none⟩ = some (.int .i64 gv) := cell_of_row _ _ 1 _ _ (0, 0) HRA4.out
      have ca2 : w4.cell? ⟨ga, 2, none⟩ = some (.int .i64 rm) := cell_of_row _ _ 2 _ _ (0, 0) HRA4.out
      have cb0 : w4.cell? ⟨gb, 0, none⟩ = some (.bool true) := cell_of_row _ _ 0 _ _ (0, 0) HRB4.out
      have cb1 : w4.cell? ⟨gb, 1, none⟩ = some (.int .i64 d0) := cell_of_row _ _ 1 _ _ (0, 0) HRB4.out
      have cb2 : w4.cell? ⟨gb, 2, none⟩ = some (.int .i64 f0) := cell_of_row _ _ 2 _ _ (0, 0) HRB4.out
      obtain ⟨cw0, cw1, cw2⟩ := HW4.out.cell
      by_cases hrm2 : 0 ≤ rm ∧ rm ≤ i.n
      · obtain ⟨hrm, hrn⟩ := hrm2
        have HS : Hid (Ju.step fr n i k s = (10, _, 0)) := HSR.out ⟨hrm, hrn⟩
        go_wp2_with fail
        go_ret
        exact ⟨_, _, _, rfl, HS.out, HB4.out.mono (by omega), fun h => absurd h (by decide)⟩
      · by_cases hst : d0 < tk ∨ 16 < d0 - tk + gv
        · have HS : Hid (Ju.step fr n i k s = (12, _, 0)) := HS12.out d0 f0 hrm2 HK.out hst
          have hroom : (0 ≤ rm ∧ ¬ rm ≤ i.n) ∨ ¬ 0 ≤ rm := by omega
          clear hrm2
          rcases hroom with ⟨hq1, hq2⟩ | hq1
          all_goals
            by_cases hs1 : d0 < tk
            · clear hst
              go_wp2_with fail
              go_ret
              exact ⟨_, _, _, rfl, HS.out, HB4.out.mono (by omega), fun h => absurd h (by decide)⟩
            · have hs2 : 16 < d0 - tk + gv := by omega
              clear hst
              go_wp2_with fail
              go_ret
              exact ⟨_, _, _, rfl, HS.out, HB4.out.mono (by omega), fun h => absurd h (by decide)⟩
        · have hq1 : ¬ d0 < tk := by omega
          have hq2 : ¬ 16 < d0 - tk + gv := by omega
          have HNR := Lib.hid hrm2
          have HNS := Lib.hid hst
          obtain ⟨m, hmx⟩ : ∃ m, (if top < d0 - tk + gv then d0 - tk + gv else top) = m := ⟨_, rfl⟩
          have HMX : Hid (m = max top (d0 - tk + gv)) := by unfold RowKit.Hid; rw [← hmx, Int.max_def]; split <;> split <;> omega
          have fz : w4.frozen? ⟨g0, 1, none⟩ = false := frozen_of_row _ _ _ _ _ HW4.out
          have hroom : (0 ≤ rm ∧ ¬ rm ≤ i.n) ∨ ¬ 0 ≤ rm := by omega
          have HZB4 : Hid (B ≤ w4.heap.size) := by unfold RowKit.Hid; omega
          clear hrm2 hst
          by_cases h10 : i.op = 10
          · have HJ : Hid (Ju.jumps i.op = true) := by unfold RowKit.Hid; rw [h10]; rfl
            obtain ⟨n1, n2⟩ := right_n hr HJ.out
            obtain ⟨T, hT⟩ : ∃ T, T = Ju.to k i := ⟨_, rfl⟩
            have hTe : (k : Int) + 1 + i.n = (T : Int) := by rw [hT]; unfold Ju.to; omega
            have HT := Lib.hid hT
            have H10 := Lib.hid h10
            clear hT
            by_cases hj : n < T
            · have HS : Hid (Ju.step fr n i k s = (11, _, 0)) := HS11.out d0 f0 HNR.out HK.out HNS.out ⟨HJ.out, by rw [← HT.out]; exact hj⟩
              rcases hroom with ⟨hr1, hr2⟩ | hr1
              all_goals
                go_upto_region 14 with fail
                obtain ⟨w5, hw5⟩ : ∃ w5, w5 = w4.setCell ⟨g0, 1, none⟩ (.int .i64 m) := ⟨_, rfl⟩
                rw [← hw5]
                have HI5 : Hid (w5.heap[w.heap.size]? = some (.cells #[.int .i64 i.op, .int .i32 i.n] 40 (0, 0))) := by unfold RowKit.Hid; rw [hw5, heap_setCell_other _ _ _ _ (by dsimp only; omega)]; exact HI4.out
                have HRB5 : Hid (w5.heap[gb]? = some (.cells #[.bool true, .int .i64 d0, .int .i64 f0] 52 (0, 0))) := by unfold RowKit.Hid; rw [hw5, heap_setCell_other _ _ _ _ (by dsimp only; omega)]; exact HRB4.out
                have HW5 : Hid (WkAt w5 g0 g1 n m fu) := by
                  have q := heap_setCell_same _ g0 1 _ _ (.int .i64 m) HW4.out
                  simp only [List.setIfInBounds_toArray, List.set_cons_zero, List.set_cons_succ] at q
                  rw [← hw5] at q
                  exact q
                have HP5 : Hid (PlAt w5 g1 n s) := by unfold RowKit.Hid PlAt; rw [hw5, heap_setCell_other _ _ _ _ (by dsimp only; omega)]; exact HP4.out
                have HB5 : Hid (Below B w w5) := by unfold RowKit.Hid; rw [hw5]; exact (HB4.out.mono (by omega)).setCell (by dsimp only; omega) _
                have HZ5 : Hid (w4.heap.size ≤ w5.heap.size) := by unfold RowKit.Hid; rw [hw5]; simp
                clear hw5 ci0 ci1 ca0 ca1 ca2 cb0 cb1 cb2 cw0 cw1 cw2 fz hmx
                have ci0 : w5.cell? ⟨w.heap.size, 0, none⟩ = some (.int .i64 i.op) := cell_of_row _ _ 0 _ _ (0, 0) HI5.out
                have ci1 : w5.cell? ⟨w.heap.size, 1, none⟩ = some (.int .i32 i.n) := cell_of_row _ _ 1 _ _ (0, 0) HI5.out
                have cb1 : w5.cell? ⟨gb, 1, none⟩ = some (.int .i64 d0) := cell_of_row _ _ 1 _ _ (0, 0) HRB5.out
                have cb2 : w5.cell? ⟨gb, 2, none⟩ = some (.int .i64 f0) := cell_of_row _ _ 2 _ _ (0, 0) HRB5.out
                obtain ⟨cw0, cw1, cw2⟩ := HW5.out.cell
                go_big_region
                go_wp2_with fail
                go_ret
                exact ⟨_, _, _, rfl, HS.out, HB5.out.drew, fun h => absurd h (by decide)⟩
            · have hj2 : T ≤ n := by omega
              have HJN : Hid (¬ (Ju.jumps i.op = true ∧ n < Ju.to k i)) := by unfold RowKit.Hid; rw [← HT.out]; omega
              rcases hroom with ⟨hr1, hr2⟩ | hr1
              all_goals
                go_upto_region 14 with fail
                obtain ⟨w5, hw5⟩ : ∃ w5, w5 = w4.setCell ⟨g0, 1, none⟩ (.int .i64 m) := ⟨_, rfl⟩
                rw [← hw5]
                have HI5 : Hid (w5.heap[w.heap.size]? = some (.cells #[.int .i64 i.op, .int .i32 i.n] 40 (0, 0))) := by unfold RowKit.Hid; rw [hw5, heap_setCell_other _ _ _ _ (by dsimp only; omega)]; exact HI4.out
                have HRB5 : Hid (w5.heap[gb]? = some (.cells #[.bool true, .int .i64 d0, .int .i64 f0] 52 (0, 0))) := by unfold RowKit.Hid; rw [hw5, heap_setCell_other _ _ _ _ (by dsimp only; omega)]; exact HRB4.out
                have HW5 : Hid (WkAt w5 g0 g1 n m fu) := by
                  have q := heap_setCell_same _ g0 1 _ _ (.int .i64 m) HW4.out
                  simp only [List.setIfInBounds_toArray, List.set_cons_zero, List.set_cons_succ] at q
                  rw [← hw5] at q
                  exact q
                have HP5 : Hid (PlAt w5 g1 n s) := by unfold RowKit.Hid PlAt; rw [hw5, heap_setCell_other _ _ _ _ (by dsimp only; omega)]; exact HP4.out
                have HB5 : Hid (Below B w w5) := by unfold RowKit.Hid; rw [hw5]; exact (HB4.out.mono (by omega)).setCell (by dsimp only; omega) _
                have HZ5 : Hid (w4.heap.size ≤ w5.heap.size) := by unfold RowKit.Hid; rw [hw5]; simp
                clear hw5 ci0 ci1 ca0 ca1 ca2 cb0 cb1 cb2 cw0 cw1 cw2 fz hmx
                have ci0 : w5.cell? ⟨w.heap.size, 0, none⟩ = some (.int .i64 i.op) := cell_of_row _ _ 0 _ _ (0, 0) HI5.out
                have ci1 : w5.cell? ⟨w.heap.size, 1, none⟩ = some (.int .i32 i.n) := cell_of_row _ _ 1 _ _ (0, 0) HI5.out
                have cb1 : w5.cell? ⟨gb, 1, none⟩ = some (.int .i64 d0) := cell_of_row _ _ 1 _ _ (0, 0) HRB5.out
                have cb2 : w5.cell? ⟨gb, 2, none⟩ = some (.int .i64 f0) := cell_of_row _ _ 2 _ _ (0, 0) HRB5.out
                obtain ⟨cw0, cw1, cw2⟩ := HW5.out.cell
                go_big_region
                have HZB5 : Hid (B ≤ w5.heap.size) := by have h1 := HZ5.out; have h2 := HZB4.out; unfold RowKit.Hid; omega
                go_wp2_with fail
                refine (jcome2 n T _ (d0 - tk + gv) (f0 + 1) rfl s g0 g1 m fu w5.drew hj2 hn HW5.out HP5.out).mono ?_
                rintro e w6 ⟨q6, r6, hcm6, hq6, rfl, hg6, hp6⟩
                replace hg6 : w5.grownBy w6 (some g1) := ⟨hg6.os, hg6.tape, hg6.output, hg6.size, hg6.block⟩
                cases r6 with
                | none =>
                  obtain rfl : q6 = false := hq6
                  have HW6 : Hid (WkAt w6 g0 g1 n m fu) := kept_row HW5.out hg6 hne
                  have HB6 : Hid (Below B w w6) := HB5.out.grown hg6 HZB5.out (fun g hg => by injection hg with hg; omega)
                  have HP6 := Lib.hid hp6
                  clear hg6 hp6
                  go_wp2_with fail
                  go_ret
                  exact ⟨_, _, _, rfl, HSC2.out d0 f0 s HNR.out HK.out HNS.out HJN.out (if_pos H10.out) ((if_pos HJ.out).trans (by rw [← HT.out]; exact hcm6)), HB6.out, fun h => absurd h (by decide)⟩
                | some S6 =>
                  obtain rfl : q6 = true := hq6
                  replace hp6 : PlAt w6 g1 n S6 := hp6
                  have HW6 : Hid (WkAt w6 g0 g1 n m fu) := kept_row HW5.out hg6 hne
                  have HB6 : Hid (Below B w w6) := HB5.out.grown hg6 HZB5.out (fun g hg => by injection hg with hg; omega)
                  have HP6 := Lib.hid hp6
                  clear hg6 hp6
                  go_wp2_with fail
                  go_ret
                  exact ⟨_, _, _, rfl, HSOK.out d0 f0 s _ HNR.out HK.out HNS.out HJN.out (if_pos H10.out) ((if_pos HJ.out).trans (by rw [← HT.out]; exact hcm6)), HB6.out, fun _ => ⟨by rw [← HMX.out]; exact HW6.out, HP6.out⟩⟩
          · by_cases h11 : i.op = 11
            · have HJ : Hid (Ju.jumps i.op = true) := by unfold RowKit.Hid; rw [h11]; rfl
              obtain ⟨n1, n2⟩ := right_n hr HJ.out
              obtain ⟨T, hT⟩ : ∃ T, T = Ju.to k i := ⟨_, rfl⟩
              have hTe : (k : Int) + 1 + i.n = (T : Int) := by rw [hT]; unfold Ju.to; omega
              have HT := Lib.hid hT
              have H10 := Lib.hid h10
              clear hT
              by_cases hj : n < T
              · have HS : Hid (Ju.step fr n i k s = (11, _, 0)) := HS11.out d0 f0 HNR.out HK.out HNS.out ⟨HJ.out, by rw [← HT.out]; exact hj⟩
                rcases hroom with ⟨hr1, hr2⟩ | hr1
                all_goals
                  go_upto_region 14 with fail
                  obtain ⟨w5, hw5⟩ : ∃ w5, w5 = w4.setCell ⟨g0, 1, none⟩ (.int .i64 m) := ⟨_, rfl⟩
                  rw [← hw5]
                  have HI5 : Hid (w5.heap[w.heap.size]? = some (.cells #[.int .i64 i.op, .int .i32 i.n] 40 (0, 0))) := by unfold RowKit.Hid; rw [hw5, heap_setCell_other _ _ _ _ (by dsimp only; omega)]; exact HI4.out
                  have HRB5 : Hid (w5.heap[gb]? = some (.cells #[.bool true, .int .i64 d0, .int .i64 f0] 52 (0, 0))) := by unfold RowKit.Hid; rw [hw5, heap_setCell_other _ _ _ _ (by dsimp only; omega)]; exact HRB4.out
                  have HW5 : Hid (WkAt w5 g0 g1 n m fu) := by
                    have q := heap_setCell_same _ g0 1 _ _ (.int .i64 m) HW4.out
                    simp only [List.setIfInBounds_toArray, List.set_cons_zero, List.set_cons_succ] at q
                    rw [← hw5] at q
                    exact q
                  have HP5 : Hid (PlAt w5 g1 n s) := by unfold RowKit.Hid PlAt; rw [hw5, heap_setCell_other _ _ _ _ (by dsimp only; omega)]; exact HP4.out
                  have HB5 : Hid (Below B w w5) := by unfold RowKit.Hid; rw [hw5]; exact (HB4.out.mono (by omega)).setCell (by dsimp only; omega) _
                  have HZ5 : Hid (w4.heap.size ≤ w5.heap.size) := by unfold RowKit.Hid; rw [hw5]; simp
                  clear hw5 ci0 ci1 ca0 ca1 ca2 cb0 cb1 cb2 cw0 cw1 cw2 fz hmx
                  have ci0 : w5.cell? ⟨w.heap.size, 0, none⟩ = some (.int .i64 i.op) := cell_of_row _ _ 0 _ _ (0, 0) HI5.out
                  have ci1 : w5.cell? ⟨w.heap.size, 1, none⟩ = some (.int .i32 i.n) := cell_of_row _ _ 1 _ _ (0, 0) HI5.out
                  have cb1 : w5.cell? ⟨gb, 1, none⟩ = some (.int .i64 d0) := cell_of_row _ _ 1 _ _ (0, 0) HRB5.out
                  have cb2 : w5.cell? ⟨gb, 2, none⟩ = some (.int .i64 f0) := cell_of_row _ _ 2 _ _ (0, 0) HRB5.out
                  obtain ⟨cw0, cw1, cw2⟩ := HW5.out.cell
                  go_big_region
                  go_wp2_with fail
                  go_ret
                  exact ⟨_, _, _, rfl, HS.out, HB5.out.drew, fun h => absurd h (by decide)⟩
              · have hj2 : T ≤ n := by omega
                have HJN : Hid (¬ (Ju.jumps i.op = true ∧ n < Ju.to k i)) := by unfold RowKit.Hid; rw [← HT.out]; omega
                rcases hroom with ⟨hr1, hr2⟩ | hr1
                all_goals
                  go_upto_region 14 with fail
                  obtain ⟨w5, hw5⟩ : ∃ w5, w5 = w4.setCell ⟨g0, 1, none⟩ (.int .i64 m) := ⟨_, rfl⟩
                  rw [← hw5]
                  have HI5 : Hid (w5.heap[w.heap.size]? = some (.cells #[.int .i64 i.op, .int .i32 i.n] 40 (0, 0))) := by unfold RowKit.Hid; rw [hw5, heap_setCell_other _ _ _ _ (by dsimp only; omega)]; exact HI4.out
                  have HRB5 : Hid (w5.heap[gb]? = some (.cells #[.bool true, .int .i64 d0, .int .i64 f0] 52 (0, 0))) := by unfold RowKit.Hid; rw [hw5, heap_setCell_other _ _ _ _ (by dsimp only; omega)]; exact HRB4.out
                  have HW5 : Hid (WkAt w5 g0 g1 n m fu) := by
                    have q := heap_setCell_same _ g0 1 _ _ (.int .i64 m) HW4.out
                    simp only [List.setIfInBounds_toArray, List.set_cons_zero, List.set_cons_succ] at q
                    rw [← hw5] at q
                    exact q
                  have HP5 : Hid (PlAt w5 g1 n s) := by unfold RowKit.Hid PlAt; rw [hw5, heap_setCell_other _ _ _ _ (by dsimp only; omega)]; exact HP4.out
                  have HB5 : Hid (Below B w w5) := by unfold RowKit.Hid; rw [hw5]; exact (HB4.out.mono (by omega)).setCell (by dsimp only; omega) _
                  have HZ5 : Hid (w4.heap.size ≤ w5.heap.size) := by unfold RowKit.Hid; rw [hw5]; simp
                  clear hw5 ci0 ci1 ca0 ca1 ca2 cb0 cb1 cb2 cw0 cw1 cw2 fz hmx
                  have ci0 : w5.cell? ⟨w.heap.size, 0, none⟩ = some (.int .i64 i.op) := cell_of_row _ _ 0 _ _ (0, 0) HI5.out
                  have ci1 : w5.cell? ⟨w.heap.size, 1, none⟩ = some (.int .i32 i.n) := cell_of_row _ _ 1 _ _ (0, 0) HI5.out
                  have cb1 : w5.cell? ⟨gb, 1, none⟩ = some (.int .i64 d0) := cell_of_row _ _ 1 _ _ (0, 0) HRB5.out
                  have cb2 : w5.cell? ⟨gb, 2, none⟩ = some (.int .i64 f0) := cell_of_row _ _ 2 _ _ (0, 0) HRB5.out
                  obtain ⟨cw0, cw1, cw2⟩ := HW5.out.cell
                  go_big_region
                  have HZB5 : Hid (B ≤ w5.heap.size) := by have h1 := HZ5.out; have h2 := HZB4.out; unfold RowKit.Hid; omega
                  go_wp2_with fail
                  refine (jcome2 n (k + 1) _ (d0 - tk + gv) (f0 + 1) (by omega) s g0 g1 m fu w5.drew (by omega) hn HW5.out HP5.out).mono ?_
                  rintro e w6 ⟨q6, r6, hcm6, hq6, rfl, hg6, hp6⟩
                  replace hg6 : w5.grownBy w6 (some g1) := ⟨hg6.os, hg6.tape, hg6.output, hg6.size, hg6.block⟩
                  cases r6 with
                  | none =>
                    obtain rfl : q6 = false := hq6
                    have HW6 : Hid (WkAt w6 g0 g1 n m fu) := kept_row HW5.out hg6 hne
                    have HB6 : Hid (Below B w w6) := HB5.out.grown hg6 HZB5.out (fun g hg => by injection hg with hg; omega)
                    have HP6 := Lib.hid hp6
                    clear hg6 hp6
                    go_wp2_with fail
                    go_ret
                    exact ⟨_, _, _, rfl, HSC1.out d0 f0 HNR.out HK.out HNS.out HJN.out ((if_neg H10.out).trans hcm6), HB6.out, fun h => absurd h (by decide)⟩
                  | some S6 =>
                    obtain rfl : q6 = true := hq6
                    replace hp6 : PlAt w6 g1 n S6 := hp6
                    clear ci0 ci1 cb1 cb2 cw0 cw1 cw2
                    have HW6 : Hid (WkAt w6 g0 g1 n m fu) := kept_row HW5.out hg6 hne
                    have HB6 : Hid (Below B w w6) := HB5.out.grown hg6 HZB5.out (fun g hg => by injection hg with hg; omega)
                    have HP6 := Lib.hid hp6
                    have HI6 := Lib.hid (kept_row HI5.out hg6 (by omega))
                    have HRB6 := Lib.hid (kept_row HRB5.out hg6 (by omega))
                    have HZB6 : Hid (B ≤ w6.heap.size) := by have h1 := hg6.size; have h2 := HZB5.out; unfold RowKit.Hid; omega
                    clear hg6 hp6
                    have ci0 : w6.cell? ⟨w.heap.size, 0, none⟩ = some (.int .i64 i.op) := cell_of_row _ _ 0 _ _ (0, 0) HI6.out
                    have ci1 : w6.cell? ⟨w.heap.size, 1, none⟩ = some (.int .i32 i.n) := cell_of_row _ _ 1 _ _ (0, 0) HI6.out
                    have cb1 : w6.cell? ⟨gb, 1, none⟩ = some (.int .i64 d0) := cell_of_row _ _ 1 _ _ (0, 0) HRB6.out
                    have cb2 : w6.cell? ⟨gb, 2, none⟩ = some (.int .i64 f0) := cell_of_row _ _ 2 _ _ (0, 0) HRB6.out
                    obtain ⟨cw0, cw1, cw2⟩ := HW6.out.cell
                    go_wp2_with fail
                    refine (jcome2 n T _ (d0 - tk + gv) (f0 + 1) rfl S6 g0 g1 m fu w6 hj2 hn HW6.out HP6.out).mono ?_
                    rintro e w7 ⟨q7, r7, hcm7, hq7, rfl, hg7, hp7⟩
                    replace hg7 : w6.grownBy w7 (some g1) := ⟨hg7.os, hg7.tape, hg7.output, hg7.size, hg7.block⟩
                    cases r7 with
                    | none =>
                      obtain rfl : q7 = false := hq7
                      have HW7 : Hid (WkAt w7 g0 g1 n m fu) := kept_row HW6.out hg7 hne
                      have HB7 : Hid (Below B w w7) := HB6.out.grown hg7 HZB6.out (fun g hg => by injection hg with hg; omega)
                      have HP7 := Lib.hid hp7
                      clear hg7 hp7
                      go_wp2_with fail
                      go_ret
                      exact ⟨_, _, _, rfl, HSC2.out d0 f0 _ HNR.out HK.out HNS.out HJN.out ((if_neg H10.out).trans hcm6) ((if_pos HJ.out).trans (by rw [← HT.out]; exact hcm7)), HB7.out, fun h => absurd h (by decide)⟩
                    | some S7 =>
                      obtain rfl : q7 = true := hq7
                      replace hp7 : PlAt w7 g1 n S7 := hp7
                      have HW7 : Hid (WkAt w7 g0 g1 n m fu) := kept_row HW6.out hg7 hne
                      have HB7 : Hid (Below B w w7) := HB6.out.grown hg7 HZB6.out (fun g hg => by injection hg with hg; omega)
                      have HP7 := Lib.hid hp7
                      clear hg7 hp7
                      go_wp2_with fail
                      go_ret
                      exact ⟨_, _, _, rfl, HSOK.out d0 f0 _ _ HNR.out HK.out HNS.out HJN.out ((if_neg H10.out).trans hcm6) ((if_pos HJ.out).trans (by rw [← HT.out]; exact hcm7)), HB7.out, fun _ => ⟨by rw [← HMX.out]; exact HW7.out, HP7.out⟩⟩
            · have HJ : Hid (¬ Ju.jumps i.op = true) := by unfold RowKit.Hid Ju.jumps; simp [h10, h11]
              have H10 := Lib.hid h10
              have h10b : (i.op == 10) = false := by simpa using h10
              have h11b : (i.op == 11) = false := by simpa using h11
              have HJN : Hid (¬ (Ju.jumps i.op = true ∧ n < Ju.to k i)) := fun h => HJ.out h.1
              rcases hroom with ⟨hr1, hr2⟩ | hr1
              all_goals
                go_upto_region 14 with fail
                obtain ⟨w5, hw5⟩ : ∃ w5, w5 = w4.setCell ⟨g0, 1, none⟩ (.int .i64 m) := ⟨_, rfl⟩
                rw [← hw5]
                have HI5 : Hid (w5.heap[w.heap.size]? = some (.cells #[.int .i64 i.op, .int .i32 i.n] 40 (0, 0))) := by unfold RowKit.Hid; rw [hw5, heap_setCell_other _ _ _ _ (by dsimp only; omega)]; exact HI4.out
                have HRB5 : Hid (w5.heap[gb]? = some (.cells #[.bool true, .int .i64 d0, .int .i64 f0] 52 (0, 0))) := by unfold RowKit.Hid; rw [hw5, heap_setCell_other _ _ _ _ (by dsimp only; omega)]; exact HRB4.out
                have HW5 : Hid (WkAt w5 g0 g1 n m fu) := by
                  have q := heap_setCell_same _ g0 1 _ _ (.int .i64 m) HW4.out
                  simp only [List.setIfInBounds_toArray, List.set_cons_zero, List.set_cons_succ] at q
                  rw [← hw5] at q
                  exact q
                have HP5 : Hid (PlAt w5 g1 n s) := by unfold RowKit.Hid PlAt; rw [hw5, heap_setCell_other _ _ _ _ (by dsimp only; omega)]; exact HP4.out
                have HB5 : Hid (Below B w w5) := by unfold RowKit.Hid; rw [hw5]; exact (HB4.out.mono (by omega)).setCell (by dsimp only; omega) _
                have HZ5 : Hid (w4.heap.size ≤ w5.heap.size) := by unfold RowKit.Hid; rw [hw5]; simp
                clear hw5 ci0 ci1 ca0 ca1 ca2 cb0 cb1 cb2 cw0 cw1 cw2 fz hmx
                have ci0 : w5.cell? ⟨w.heap.size, 0, none⟩ = some (.int .i64 i.op) := cell_of_row _ _ 0 _ _ (0, 0) HI5.out
                have ci1 : w5.cell? ⟨w.heap.size, 1, none⟩ = some (.int .i32 i.n) := cell_of_row _ _ 1 _ _ (0, 0) HI5.out
                have cb1 : w5.cell? ⟨gb, 1, none⟩ = some (.int .i64 d0) := cell_of_row _ _ 1 _ _ (0, 0) HRB5.out
                have cb2 : w5.cell? ⟨gb, 2, none⟩ = some (.int .i64 f0) := cell_of_row _ _ 2 _ _ (0, 0) HRB5.out
                obtain ⟨cw0, cw1, cw2⟩ := HW5.out.cell
                go_big_region
                have HZB5 : Hid (B ≤ w5.heap.size) := by have h1 := HZ5.out; have h2 := HZB4.out; unfold RowKit.Hid; omega
                go_wp2_with fail
                refine (jcome2 n (k + 1) _ (d0 - tk + gv) (f0 + 1) (by omega) s g0 g1 m fu w5.drew (by omega) hn HW5.out HP5.out).mono ?_
                rintro e w6 ⟨q6, r6, hcm6, hq6, rfl, hg6, hp6⟩
                replace hg6 : w5.grownBy w6 (some g1) := ⟨hg6.os, hg6.tape, hg6.output, hg6.size, hg6.block⟩
                cases r6 with
                | none =>
                  obtain rfl : q6 = false := hq6
                  have HW6 : Hid (WkAt w6 g0 g1 n m fu) := kept_row HW5.out hg6 hne
                  have HB6 : Hid (Below B w w6) := HB5.out.grown hg6 HZB5.out (fun g hg => by injection hg with hg; omega)
                  have HP6 := Lib.hid hp6
                  clear hg6 hp6
                  go_wp2_with fail
                  go_ret
                  exact ⟨_, _, _, rfl, HSC1.out d0 f0 HNR.out HK.out HNS.out HJN.out ((if_neg H10.out).trans hcm6), HB6.out, fun h => absurd h (by decide)⟩
                | some S6 =>
                  obtain rfl : q6 = true := hq6
                  replace hp6 : PlAt w6 g1 n S6 := hp6
                  have HW6 : Hid (WkAt w6 g0 g1 n m fu) := kept_row HW5.out hg6 hne
                  have HB6 : Hid (Below B w w6) := HB5.out.grown hg6 HZB5.out (fun g hg => by injection hg with hg; omega)
                  have HP6 := Lib.hid hp6
                  clear hg6 hp6
                  go_wp2_with fail
                  go_ret
                  exact ⟨_, _, _, rfl, HSOK.out d0 f0 _ _ HNR.out HK.out HNS.out HJN.out ((if_neg H10.out).trans hcm6) (if_neg HJ.out), HB6.out, fun _ => ⟨by rw [← HMX.out]; exact HW6.out, HP6.out⟩⟩
  · obtain ⟨E, hE⟩ : ∃ E, E = Ia.right i := ⟨_, rfl⟩
    rw [← hE] at HRI hr
    have HS : Hid (Ju.step fr n i k s = (E, s, 0)) := by unfold RowKit.Hid Ju.step; rw [← hE, if_pos hr]
    clear h0 h1 hE
    have hE0 : (E != 0) = true := by simpa using hr
    go_enter Try.func18, Try.ntmps18
    go_wp2_with fail
    refine (HRI.out _).mono ?_
    rintro e w1 ⟨rfl, hb1⟩
    have HB1 : Hid (Below w.heap.size w w1) := (((Below.refl _ _).alloc (Nat.le_refl _) _).alloc (by simp) _).trans (hb1.mono (by simp; omega))
    clear hb1
    go_wp2_with fail
    go_ret
    exact ⟨_, _, _, rfl, HS.out, HB1.out.mono (by omega), fun h => absurd h hr⟩
end Go.Proofs.Ytlfbpcjeohbfkaa
