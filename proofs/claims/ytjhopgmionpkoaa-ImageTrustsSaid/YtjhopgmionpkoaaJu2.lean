/-
  An instruction at a place, by the method one of judge's walk.
  What is told of a code, by the package judge.
  What is told of a code, by the package judge: the walk of Check.
  A frame by value, opened; what must come of the fixed calls of the layer judge.
  Laws on what is told of a code, in plain Lean: wider frames, two codes one behind the other.
  Two codes one behind the other, in plain Lean.
  The ways through a code that is accepted, in plain Lean.
  Integers in memory, all of one block.
  The reference of judge: its ways, and rows of integers that it grows and writes.
-/
import Derived.Test.YtjhopgmionpkoaaJu1
import Derived.Test.YtjhopgmionpkoaaIsa2
import Derived.Maps.AppendAt
namespace Go.Proofs.Ytjhopgmionpkoaa
set_option maxRecDepth 20000
open Go.RowKit Mem

theorem takes_le (op : Int) : 0 ≤ Ju.takes op ∧ Ju.takes op ≤ 2 ∧ 0 ≤ Ju.gives op ∧ Ju.gives op ≤ 1 := by
  unfold Ju.takes Ju.gives
  refine ⟨?_, ?_, ?_, ?_⟩ <;> (repeat' split) <;> decide
theorem right_n {i : Ia.Ins} (h : Ia.right i = 0) (hj : Ju.jumps i.op = true) : 0 ≤ i.n ∧ i.n ≤ 65535 := by
  unfold Ia.right at h
  unfold Ju.jumps at hj
  simp only [Bool.or_eq_true, beq_iff_eq] at hj
  unfold Ia.form Ia.most at h
  repeat' split at h
  all_goals (try omega)
theorem WkAt.below {w w' : World} {g0 g1 n B : Nat} {top fu : Int} (h : WkAt w g0 g1 n top fu) (hb : Below B w w') (hg : g0 < B) : WkAt w' g0 g1 n top fu := (hb.block _ hg).trans h
theorem PlAt.below {w w' : World} {g1 n B : Nat} {s : Ju.St} (h : PlAt w g1 n s) (hb : Below B w w') (hg : g1 < B) : PlAt w' g1 n s := (hb.block _ hg).trans h
theorem jcome2 (n t : Nat) (T d f : Int) (hT : T = (t : Int)) (s : Ju.St) (g0 g1 : Nat) (top fu : Int) (w : World) (ht : t ≤ n) (hn : n ≤ 600) (h0 : WkAt w g0 g1 n top fu) (h1 : PlAt w g1 n s) :
    Calls Try.prog 78 #[.pointer (some ⟨g0, 0, none⟩), .int .i64 T, .int .i64 d, .int .i64 f] w fun e w' => ∃ (q : Bool) (r : Option Ju.St), Ju.come s t d f = r ∧ q = r.isSome ∧ e = .returned (.bool q) ∧ w.grownBy w' (some g1) ∧ PlAt w' g1 n (r.getD s) := by
  subst hT
  exact (jcome n t d f s g0 g1 top fu w ht hn h0 h1).mono fun e w' ⟨he, hg, hp⟩ => ⟨_, _, rfl, rfl, he, hg, hp⟩
theorem kept_row {w w' : World} {g g1 : Nat} {o : Obj} (h : w.heap[g]? = some o) (hg : w.grownBy w' (some g1)) (hne : g ≠ g1) : w'.heap[g]? = some o :=
  (hg.block _ (Array.getElem?_eq_some_iff.1 h).1 (fun e => hne (Option.some.inj e))).trans h
/-- what comes of an instruction at a place -/
def OnePost (fr : Ju.Fr) (n k : Nat) (i : Ia.Ins) (s : Ju.St) (g0 g1 B : Nat) (top fu : Int) (w : World) (e : Ending) (w' : World) : Prop :=
  ∃ E S D, e = .returned (.int .i64 E) ∧ Ju.step fr n i k s = (E, S, D) ∧ Below B w w' ∧ (E = 0 → WkAt w' g0 g1 n (max top D) fu ∧ PlAt w' g1 n S)
set_option maxRecDepth 100000 in
set_option maxHeartbeats 8000000 in
theorem jone (fr : Ju.Fr) (n k : Nat) (i : Ia.Ins) (s : Ju.St) (g0 g1 B : Nat) (top fu : Int) (w : World) (hk : k < n) (hn : n ≤ 600) (hi1 : -2147483648 ≤ i.n) (hi2 : i.n ≤ 2147483647)
    (hs : ∀ d f, s k = some (d, f) → 0 ≤ d ∧ d ≤ 16 ∧ 0 ≤ f ∧ f ≤ 600) (h0 : WkAt w g0 g1 n top fu) (h1 : PlAt w g1 n s) (hB0 : B ≤ g0) (hB1 : B ≤ g1) (hne : g0 ≠ g1) :
    Calls Try.prog 41 #[.pointer (some ⟨g0, 0, none⟩), .agg #[.int .i64 i.op, .int .i32 i.n], .int .i64 k, .agg #[.int .i64 fr.sl, .int .i64 fr.ol, .int .i64 fr.nw, .int .i64 fr.is, .int .i64 fr.os]] w
      fun e w' => OnePost fr n k i s g0 g1 B top fu w e w' := by
  have hl0 : g0 < w.heap.size := (Array.getElem?_eq_some_iff.1 h0).1
  have hl1 : g1 < w.heap.size := (Array.getElem?_eq_some_iff.1 h1).1
  have HWK := Lib.hid h0
  have HPL := Lib.hid h1
  have HRI := Lib.hid (fun (W : World) => isaright i W)
  by_cases hr : Ia.right i = 0
  · have HRZ := Lib.hid hr
    rw [hr] at HRI
    obtain ⟨c0, hc0⟩ : ∃ c, c = cellOf s (k * 3) := ⟨_, rfl⟩
    obtain ⟨c1, hc1⟩ : ∃ c, c = cellOf s (k * 3 + 1) := ⟨_, rfl⟩
    obtain ⟨c2, hc2⟩ : ∃ c, c = cellOf s (k * 3 + 2) := ⟨_, rfl⟩
    have HO : Hid (c0.oneCell' = true ∧ c1.oneCell' = true ∧ c2.oneCell' = true) := by
      unfold RowKit.Hid
      rw [hc0, hc1, hc2]
      cases hsk : s k with
      | none => obtain ⟨e0, e1, e2⟩ := cellOf_none hsk; rw [e0, e1, e2]; exact ⟨rfl, rfl, rfl⟩
      | some v => obtain ⟨e0, e1, e2⟩ := cellOf_some hsk; rw [e0, e1, e2]; exact ⟨rfl, rfl, rfl⟩
    have HC0 := Lib.hid hc0
    have HC1 := Lib.hid hc1
    have HC2 := Lib.hid hc2
    clear h0 h1 hc0 hc1 hc2
    go_enter Try.func41, Try.ntmps41
    go_wp2_with fail
    obtain ⟨W0, hW0⟩ : ∃ W0, W0 = (w.alloc (.cells #[.int .i64 i.op, .int .i32 i.n] 67)).alloc (.cells #[.int .i64 fr.sl, .int .i64 fr.ol, .int .i64 fr.nw, .int .i64 fr.is, .int .i64 fr.os] 24) := ⟨_, rfl⟩
    rw [← hW0]
    have HI0 : Hid (W0.heap[w.heap.size]? = some (.cells #[.int .i64 i.op, .int .i32 i.n] 67 (0, 0))) := by unfold RowKit.Hid; rw [hW0]; exact heap_alloc2_old _ _ _
    have HF0 : Hid (W0.heap[w.heap.size + 1]? = some (.cells #[.int .i64 fr.sl, .int .i64 fr.ol, .int .i64 fr.nw, .int .i64 fr.is, .int .i64 fr.os] 24 (0, 0))) := by unfold RowKit.Hid; rw [hW0]; exact heap_alloc2_new _ _ _
    have HB0 : Hid (Below w.heap.size w W0) := by unfold RowKit.Hid; rw [hW0]; exact ((Below.refl _ _).alloc (Nat.le_refl _) _).alloc (by simp) _
    have HZ0 : Hid (W0.heap.size = w.heap.size + 2) := by unfold RowKit.Hid; rw [hW0]; simp
    clear hW0
    refine (HRI.out W0).mono ?_
    rintro e w1 ⟨rfl, hb1⟩
    have HI1 := Lib.hid ((hb1.block _ (Array.getElem?_eq_some_iff.1 HI0.out).1).trans HI0.out)
    have HF1 := Lib.hid ((hb1.block _ (Array.getElem?_eq_some_iff.1 HF0.out).1).trans HF0.out)
    have HB1 := Lib.hid (HB0.out.trans (hb1.mono HB0.out.size))
    clear hb1
    go_upto_region 4 with fail
    refine wp_region_any (by kernel_rfl) ?_
    refine wpAny_by (ops' := jone4Ops) (by kernel_rfl) ?_
    refine jone4Region _ w1 ?hs fr n k i c0 c1 c2 w.heap.size (w.heap.size + 1) g0 g1 top fu (by omega) HO.out HI1.out HF1.out (HWK.out.below HB1.out hl0) (by rw [HC0.out]; exact (HPL.out.below HB1.out hl1).cell _ (by omega)) (by rw [HC1.out]; exact (HPL.out.below HB1.out hl1).cell _ (by omega)) (by rw [HC2.out]; exact (HPL.out.below HB1.out hl1).cell _ (by omega)) rfl rfl rfl rfl ?_
    case hs => simp
    rintro vs w4 hb4 ⟨_, _, _, hre, hrp, hnv⟩
    have hre := hre rfl
    have hrp := hrp rfl
    have hnv := hnv rfl rfl
    rw [if_pos rfl] at hre hrp
    obtain ⟨ga, va, hga, hra⟩ := hre
    obtain ⟨gb, vb, hgb, hrb⟩ := hrp
    have hgab : ga ≠ gb := fun e => hnv (by rw [va, vb, e])
    simp only [jone4Slots, List.foldl_cons, List.foldl_nil]
    simp only [jone4Val]
    simp only [Act.put, List.setIfInBounds_toArray, List.set_cons_zero, List.set_cons_succ]
    rw [va, vb]
    clear va vb hnv
    have HB4 := Lib.hid (HB1.out.trans (hb4.mono HB1.out.size))
    have HI4 := Lib.hid ((hb4.block _ (Array.getElem?_eq_some_iff.1 HI1.out).1).trans HI1.out)
    have HRA4 := Lib.hid hra
    have HRB4 := Lib.hid hrb
    have HW4 := Lib.hid (HWK.out.below HB4.out hl0)
    have HP4 := Lib.hid (HPL.out.below HB4.out hl1)
    have hz1 : w.heap.size + 2 ≤ w1.heap.size := by have := HZ0.out; have := (Array.getElem?_eq_some_iff.1 HF1.out).1; omega
    have hla : ga < w4.heap.size := (Array.getElem?_eq_some_iff.1 hra).1
    have hlb : gb < w4.heap.size := (Array.getElem?_eq_some_iff.1 hrb).1
    have hza : w.heap.size + 2 ≤ ga := by omega
    have hzb : w.heap.size + 2 ≤ gb := by omega
    clear hb4 hra hrb hga hgb HI0 HF0 HZ0 HB0 HI1 HF1 HRI
    obtain ⟨ht1, ht2, ht3, ht4⟩ := takes_le i.op
    have HTK : Hid (∃ tk gv rm, tk = Ju.takes i.op ∧ gv = Ju.gives i.op ∧ rm = Ju.room i.op fr) := ⟨_, _, _, rfl, rfl, rfl⟩
    have HSR := fun h2 => Ju.step_room (f := fr) (n := n) (k := k) (s := s) HRZ.out h2
    have HS13 := fun h2 h3 => Ju.step_reach (f := fr) (n := n) (k := k) (s := s) HRZ.out h2 h3
    have HS12 := fun d0 f0 h2 h3 h4 => Ju.step_stack (f := fr) (n := n) (k := k) (s := s) (d0 := d0) (f0 := f0) HRZ.out h2 h3 h4
    have HS11 := fun d0 f0 h2 h3 h4 h5 => Ju.step_jump (f := fr) (n := n) (k := k) (s := s) (d0 := d0) (f0 := f0) HRZ.out h2 h3 h4 h5
    have HSC1 := fun d0 f0 h2 h3 h4 h5 h6 => Ju.step_c1 (f := fr) (n := n) (k := k) (s := s) (d0 := d0) (f0 := f0) HRZ.out h2 h3 h4 h5 h6
    have HSC2 := fun d0 f0 s1 h2 h3 h4 h5 h6 h7 => Ju.step_c2 (f := fr) (n := n) (k := k) (s := s) (s1 := s1) (d0 := d0) (f0 := f0) HRZ.out h2 h3 h4 h5 h6 h7
    have HSOK := fun d0 f0 s1 s2 h2 h3 h4 h5 h6 h7 => Ju.step_ok (f := fr) (n := n) (k := k) (s := s) (s1 := s1) (s2 := s2) (d0 := d0) (f0 := f0) HRZ.out h2 h3 h4 h5 h6 h7
    generalize Ju.takes i.op = tk at *
    generalize Ju.gives i.op = gv at *
    generalize Ju.room i.op fr = rm at *
    have HSR := Lib.hid HSR
    have HS13 := Lib.hid HS13
    have HS12 := Lib.hid HS12
    have HS11 := Lib.hid HS11
    have HSC1 := Lib.hid HSC1
    have HSC2 := Lib.hid HSC2
    have HSOK := Lib.hid HSOK
    clear HTK
    cases hsk : s k with
    | none =>
      obtain ⟨e0, e1, e2⟩ := cellOf_none hsk
      obtain rfl := HC0.out.trans e0
      obtain rfl := HC1.out.trans e1
      obtain rfl := HC2.out.trans e2
      have HK := Lib.hid hsk
      clear e0 e1 e2 HC0 HC1 HC2 hsk hs HO
      have ci0 : w4.cell? ⟨w.heap.size, 0, none⟩ = some (.int .i64 i.op) := cell_of_row _ _ 0 _ _ (0, 0) HI4.out
      have ci1 : w4.cell? ⟨w.heap.size, 1, none⟩ = some (.int .i32 i.n) := cell_of_row _ _ 1 _ _ (0, 0) HI4.out
      have ca0 : w4.cell? ⟨ga, 0, none⟩ = some (.int .i64 tk) := cell_of_row _ _ 0 _ _ (0, 0) HRA4.out
      have ca1 : w4.cell? ⟨ga, 1, none⟩ = some (.int .i64 gv) := cell_of_row _ _ 1 _ _ (0, 0) HRA4.out
      have ca2 : w4.cell? ⟨ga, 2, none⟩ = some (.int .i64 rm) := cell_of_row _ _ 2 _ _ (0, 0) HRA4.out
      have cb0 : w4.cell? ⟨gb, 0, none⟩ = some (.bool false) := cell_of_row _ _ 0 _ _ (0, 0) HRB4.out
      have cb1 : w4.cell? ⟨gb, 1, none⟩ = some (.int .i64 0) := cell_of_row _ _ 1 _ _ (0, 0) HRB4.out
      have cb2 : w4.cell? ⟨gb, 2, none⟩ = some (.int .i64 0) := cell_of_row _ _ 2 _ _ (0, 0) HRB4.out
      obtain ⟨cw0, cw1, cw2⟩ := HW4.out.cell
      by_cases hrm : 0 ≤ rm
      · by_cases hrn : rm ≤ i.n
        · skip
          have HS : Hid (Ju.step fr n i k s = (10, _, 0)) := HSR.out ⟨hrm, hrn⟩
          go_wp2_with fail
          go_ret
          exact ⟨_, _, _, rfl, HS.out, HB4.out.mono (by omega), fun h => absurd h (by decide)⟩
        · skip
          have HS : Hid (Ju.step fr n i k s = (13, _, 0)) := HS13.out (fun h => hrn h.2) HK.out
          go_wp2_with fail
          go_ret
          exact ⟨_, _, _, rfl, HS.out, HB4.out.mono (by omega), fun h => absurd h (by decide)⟩
      · skip
        have HS : Hid (Ju.step fr n i k s = (13, _, 0)) := HS13.out (fun h => hrm h.1) HK.out
        go_wp2_with fail
        go_ret
        exact ⟨_, _, _, rfl, HS.out, HB4.out.mono (by omega), fun h => absurd h (by decide)⟩
    | some v =>
      obtain ⟨d0, f0⟩ := v
      obtain ⟨e0, e1, e2⟩ := cellOf_some hsk
      obtain rfl := HC0.out.trans e0
      obtain rfl := HC1.out.trans e1
      obtain rfl := HC2.out.trans e2
      obtain ⟨b1, b2, b3, b4⟩ := hs d0 f0 hsk
      have HK := Lib.hid hsk
      dsimp only at HRB4
      clear e0 e1 e2 HC0 HC1 HC2 hsk hs HO
      have ci0 : w4.cell? ⟨w.heap.size, 0, none⟩ = some (.int .i64 i.op) := cell_of_row _ _ 0 _ _ (0, 0) HI4.out
      have ci1 : w4.cell? ⟨w.heap.size, 1, none⟩ = some (.int .i32 i.n) := cell_of_row _ _ 1 _ _ (0, 0) HI4.out
      have ca0 : w4.cell? ⟨ga, 0, none⟩ = some (.int .i64 tk) := cell_of_row _ _ 0 _ _ (0, 0) HRA4.out
      have ca1 : w4.cell? ⟨ga, 1, none⟩ = some (.int .i64 gv) := cell_of_row _ _ 1 _ _ (0, 0) HRA4.out
      have ca2 : w4.cell? ⟨ga, 2, none⟩ = some (.int .i64 rm) := cell_of_row _ _ 2 _ _ (0, 0) HRA4.out
      have cb0 : w4.cell? ⟨gb, 0, none⟩ = some (.bool true) := cell_of_row _ _ 0 _ _ (0, 0) HRB4.out
      have cb1 : w4.cell? ⟨gb, 1, none⟩ = some (.int .i64 d0) := cell_of_row _ _ 1 _ _ (0, 0) HRB4.out
      have cb2 : w4.cell? ⟨gb, 2, none⟩ = some (.int .i64 f0) := cell_of_row _ _ 2 _ _ (0, 0) HRB4.out
      obtain ⟨cw0, cw1, cw2⟩ := HW4.out.cell
      by_cases hrm2 : 0 ≤ rm ∧ rm ≤ i.n
      · obtain ⟨hrm, hrn⟩ := hrm2
        have HS : Hid (Ju.step fr n i k s = (10, _, 0)) := HSR.out ⟨hrm, hrn⟩
        go_wp2_with fail
        go_ret
        exact ⟨_, _, _, rfl, HS.out, HB4.out.mono (by omega), fun h => absurd h (by decide)⟩
      · by_cases hst : d0 < tk ∨ 16 < d0 - tk + gv
        · have HS : Hid (Ju.step fr n i k s = (12, _, 0)) := HS12.out d0 f0 hrm2 HK.out hst
          have hroom : (0 ≤ rm ∧ ¬ rm ≤ i.n) ∨ ¬ 0 ≤ rm := by omega
          clear hrm2
          rcases hroom with ⟨hq1, hq2⟩ | hq1
          all_goals
            by_cases hs1 : d0 < tk
            · clear hst
              go_wp2_with fail
              go_ret
              exact ⟨_, _, _, rfl, HS.out, HB4.out.mono (by omega), fun h => absurd h (by decide)⟩
            · have hs2 : 16 < d0 - tk + gv := by omega
              clear hst
              go_wp2_with fail
              go_ret
              exact ⟨_, _, _, rfl, HS.out, HB4.out.mono (by omega), fun h => absurd h (by decide)⟩
        · have hq1 : ¬ d0 < tk := by omega
          have hq2 : ¬ 16 < d0 - tk + gv := by omega
          have HNR := Lib.hid hrm2
          have HNS := Lib.hid hst
          obtain ⟨m, hmx⟩ : ∃ m, (if top < d0 - tk + gv then d0 - tk + gv else top) = m := ⟨_, rfl⟩
          have HMX : Hid (m = max top (d0 - tk + gv)) := by unfold RowKit.Hid; rw [← hmx, Int.max_def]; split <;> split <;> omega
          have fz : w4.frozen? ⟨g0, 1, none⟩ = false := frozen_of_row _ _ _ _ _ HW4.out
          have hroom : (0 ≤ rm ∧ ¬ rm ≤ i.n) ∨ ¬ 0 ≤ rm := by omega
          have HZB4 : Hid (B ≤ w4.heap.size) := by unfold RowKit.Hid; omega
          clear hrm2 hst
          by_cases h10 : i.op = 10
          · have HJ : Hid (Ju.jumps i.op = true) := by unfold RowKit.Hid; rw [h10]; rfl
            obtain ⟨n1, n2⟩ := right_n hr HJ.out
            obtain ⟨T, hT⟩ : ∃ T, T = Ju.tgt k i := ⟨_, rfl⟩
            have hTe : (k : Int) + 1 + i.n = (T : Int) := by rw [hT]; unfold Ju.tgt; omega
            have HT := Lib.hid hT
            have H10 := Lib.hid h10
            clear hT
            by_cases hj : n < T
            · have HS : Hid (Ju.step fr n i k s = (11, _, 0)) := HS11.out d0 f0 HNR.out HK.out HNS.out ⟨HJ.out, by rw [← HT.out]; exact hj⟩
              rcases hroom with ⟨hr1, hr2⟩ | hr1
              all_goals
                go_upto_region 14 with fail
                obtain ⟨w5, hw5⟩ : ∃ w5, w5 = w4.setCell ⟨g0, 1, none⟩ (.int .i64 m) := ⟨_, rfl⟩
                rw [← hw5]
                have HI5 : Hid (w5.heap[w.heap.size]? = some (.cells #[.int .i64 i.op, .int .i32 i.n] 67 (0, 0))) := by unfold RowKit.Hid; rw [hw5, heap_setCell_other _ _ _ _ (by dsimp only; omega)]; exact HI4.out
                have HRB5 : Hid (w5.heap[gb]? = some (.cells #[.bool true, .int .i64 d0, .int .i64 f0] 78 (0, 0))) := by unfold RowKit.Hid; rw [hw5, heap_setCell_other _ _ _ _ (by dsimp only; omega)]; exact HRB4.out
                have HW5 : Hid (WkAt w5 g0 g1 n m fu) := by
                  have q := heap_setCell_same _ g0 1 _ _ (.int .i64 m) HW4.out
                  simp only [List.setIfInBounds_toArray, List.set_cons_zero, List.set_cons_succ] at q
                  rw [← hw5] at q
                  exact q
                have HP5 : Hid (PlAt w5 g1 n s) := by unfold RowKit.Hid PlAt; rw [hw5, heap_setCell_other _ _ _ _ (by dsimp only; omega)]; exact HP4.out
                have HB5 : Hid (Below B w w5) := by unfold RowKit.Hid; rw [hw5]; exact (HB4.out.mono (by omega)).setCell (by dsimp only; omega) _
                have HZ5 : Hid (w4.heap.size ≤ w5.heap.size) := by unfold RowKit.Hid; rw [hw5]; simp
                clear hw5 ci0 ci1 ca0 ca1 ca2 cb0 cb1 cb2 cw0 cw1 cw2 fz hmx
                have ci0 : w5.cell? ⟨w.heap.size, 0, none⟩ = some (.int .i64 i.op) := cell_of_row _ _ 0 _ _ (0, 0) HI5.out
                have ci1 : w5.cell? ⟨w.heap.size, 1, none⟩ = some (.int .i32 i.n) := cell_of_row _ _ 1 _ _ (0, 0) HI5.out
                have cb1 : w5.cell? ⟨gb, 1, none⟩ = some (.int .i64 d0) := cell_of_row _ _ 1 _ _ (0, 0) HRB5.out
                have cb2 : w5.cell? ⟨gb, 2, none⟩ = some (.int .i64 f0) := cell_of_row _ _ 2 _ _ (0, 0) HRB5.out
                obtain ⟨cw0, cw1, cw2⟩ := HW5.out.cell
                go_big_region
                go_wp2_with fail
                go_ret
                exact ⟨_, _, _, rfl, HS.out, HB5.out.drew, fun h => absurd h (by decide)⟩
            · have hj2 : T ≤ n := by omega
              have HJN : Hid (¬ (Ju.jumps i.op = true ∧ n < Ju.tgt k i)) := by unfold RowKit.Hid; rw [← HT.out]; omega
              rcases hroom with ⟨hr1, hr2⟩ | hr1
              all_goals
                go_upto_region 14 with fail
                obtain ⟨w5, hw5⟩ : ∃ w5, w5 = w4.setCell ⟨g0, 1, none⟩ (.int .i64 m) := ⟨_, rfl⟩
                rw [← hw5]
                have HI5 : Hid (w5.heap[w.heap.size]? = some (.cells #[.int .i64 i.op, .int .i32 i.n] 67 (0, 0))) := by unfold RowKit.Hid; rw [hw5, heap_setCell_other _ _ _ _ (by dsimp only; omega)]; exact HI4.out
                have HRB5 : Hid (w5.heap[gb]? = some (.cells #[.bool true, .int .i64 d0, .int .i64 f0] 78 (0, 0))) := by unfold RowKit.Hid; rw [hw5, heap_setCell_other _ _ _ _ (by dsimp only; omega)]; exact HRB4.out
                have HW5 : Hid (WkAt w5 g0 g1 n m fu) := by
                  have q := heap_setCell_same _ g0 1 _ _ (.int .i64 m) HW4.out
                  simp only [List.setIfInBounds_toArray, List.set_cons_zero, List.set_cons_succ] at q
                  rw [← hw5] at q
                  exact q
                have HP5 : Hid (PlAt w5 g1 n s) := by unfold RowKit.Hid PlAt; rw [hw5, heap_setCell_other _ _ _ _ (by dsimp only; omega)]; exact HP4.out
                have HB5 : Hid (Below B w w5) := by unfold RowKit.Hid; rw [hw5]; exact (HB4.out.mono (by omega)).setCell (by dsimp only; omega) _
                have HZ5 : Hid (w4.heap.size ≤ w5.heap.size) := by unfold RowKit.Hid; rw [hw5]; simp
                clear hw5 ci0 ci1 ca0 ca1 ca2 cb0 cb1 cb2 cw0 cw1 cw2 fz hmx
                have ci0 : w5.cell? ⟨w.heap.size, 0, none⟩ = some (.int .i64 i.op) := cell_of_row _ _ 0 _ _ (0, 0) HI5.out
                have ci1 : w5.cell? ⟨w.heap.size, 1, none⟩ = some (.int .i32 i.n) := cell_of_row _ _ 1 _ _ (0, 0) HI5.out
                have cb1 : w5.cell? ⟨gb, 1, none⟩ = some (.int .i64 d0) := cell_of_row _ _ 1 _ _ (0, 0) HRB5.out
                have cb2 : w5.cell? ⟨gb, 2, none⟩ = some (.int .i64 f0) := cell_of_row _ _ 2 _ _ (0, 0) HRB5.out
                obtain ⟨cw0, cw1, cw2⟩ := HW5.out.cell
                go_big_region
                have HZB5 : Hid (B ≤ w5.heap.size) := by have h1 := HZ5.out; have h2 := HZB4.out; unfold RowKit.Hid; omega
                go_wp2_with fail
                refine (jcome2 n T _ (d0 - tk + gv) (f0 + 1) rfl s g0 g1 m fu w5.drew hj2 hn HW5.out HP5.out).mono ?_
                rintro e w6 ⟨q6, r6, hcm6, hq6, rfl, hg6, hp6⟩
                replace hg6 : w5.grownBy w6 (some g1) := ⟨hg6.os, hg6.tape, hg6.output, hg6.size, hg6.block⟩
                cases r6 with
                | none =>
                  obtain rfl : q6 = false := hq6
                  have HW6 : Hid (WkAt w6 g0 g1 n m fu) := kept_row HW5.out hg6 hne
                  have HB6 : Hid (Below B w w6) := HB5.out.grown hg6 HZB5.out (fun g hg => by injection hg with hg; omega)
                  have HP6 := Lib.hid hp6
                  clear hg6 hp6
                  go_wp2_with fail
                  go_ret
                  exact ⟨_, _, _, rfl, HSC2.out d0 f0 s HNR.out HK.out HNS.out HJN.out (if_pos H10.out) ((if_pos HJ.out).trans (by rw [← HT.out]; exact hcm6)), HB6.out, fun h => absurd h (by decide)⟩
                | some S6 =>
                  obtain rfl : q6 = true := hq6
                  replace hp6 : PlAt w6 g1 n S6 := hp6
                  have HW6 : Hid (WkAt w6 g0 g1 n m fu) := kept_row HW5.out hg6 hne
                  have HB6 : Hid (Below B w w6) := HB5.out.grown hg6 HZB5.out (fun g hg => by injection hg with hg; omega)
                  have HP6 := Lib.hid hp6
                  clear hg6 hp6
                  go_wp2_with fail
                  go_ret
                  exact ⟨_, _, _, rfl, HSOK.out d0 f0 s _ HNR.out HK.out HNS.out HJN.out (if_pos H10.out) ((if_pos HJ.out).trans (by rw [← HT.out]; exact hcm6)), HB6.out, fun _ => ⟨by rw [← HMX.out]; exact HW6.out, HP6.out⟩⟩
          · by_cases h11 : i.op = 11
            · have HJ : Hid (Ju.jumps i.op = true) := by unfold RowKit.Hid; rw [h11]; rfl
              obtain ⟨n1, n2⟩ := right_n hr HJ.out
              obtain ⟨T, hT⟩ : ∃ T, T = Ju.tgt k i := ⟨_, rfl⟩
              have hTe : (k : Int) + 1 + i.n = (T : Int) := by rw [hT]; unfold Ju.tgt; omega
              have HT := Lib.hid hT
              have H10 := Lib.hid h10
              clear hT
              by_cases hj : n < T
              · have HS : Hid (Ju.step fr n i k s = (11, _, 0)) := HS11.out d0 f0 HNR.out HK.out HNS.out ⟨HJ.out, by rw [← HT.out]; exact hj⟩
                rcases hroom with ⟨hr1, hr2⟩ | hr1
                all_goals
                  go_upto_region 14 with fail
                  obtain ⟨w5, hw5⟩ : ∃ w5, w5 = w4.setCell ⟨g0, 1, none⟩ (.int .i64 m) := ⟨_, rfl⟩
                  rw [← hw5]
                  have HI5 : Hid (w5.heap[w.heap.size]? = some (.cells #[.int .i64 i.op, .int .i32 i.n] 67 (0, 0))) := by unfold RowKit.Hid; rw [hw5, heap_setCell_other _ _ _ _ (by dsimp only; omega)]; exact HI4.out
                  have HRB5 : Hid (w5.heap[gb]? = some (.cells #[.bool true, .int .i64 d0, .int .i64 f0] 78 (0, 0))) := by unfold RowKit.Hid; rw [hw5, heap_setCell_other _ _ _ _ (by dsimp only; omega)]; exact HRB4.out
                  have HW5 : Hid (WkAt w5 g0 g1 n m fu) := by
                    have q := heap_setCell_same _ g0 1 _ _ (.int .i64 m) HW4.out
                    simp only [List.setIfInBounds_toArray, List.set_cons_zero, List.set_cons_succ] at q
                    rw [← hw5] at q
                    exact q
                  have HP5 : Hid (PlAt w5 g1 n s) := by unfold RowKit.Hid PlAt; rw [hw5, heap_setCell_other _ _ _ _ (by dsimp only; omega)]; exact HP4.out
                  have HB5 : Hid (Below B w w5) := by unfold RowKit.Hid; rw [hw5]; exact (HB4.out.mono (by omega)).setCell (by dsimp only; omega) _
                  have HZ5 : Hid (w4.heap.size ≤ w5.heap.size) := by unfold RowKit.Hid; rw [hw5]; simp
                  clear hw5 ci0 ci1 ca0 ca1 ca2 cb0 cb1 cb2 cw0 cw1 cw2 fz hmx
                  have ci0 : w5.cell? ⟨w.heap.size, 0, none⟩ = some (.int .i64 i.op) := cell_of_row _ _ 0 _ _ (0, 0) HI5.out
                  have ci1 : w5.cell? ⟨w.heap.size, 1, none⟩ = some (.int .i32 i.n) := cell_of_row _ _ 1 _ _ (0, 0) HI5.out
                  have cb1 : w5.cell? ⟨gb, 1, none⟩ = some (.int .i64 d0) := cell_of_row _ _ 1 _ _ (0, 0) HRB5.out
                  have cb2 : w5.cell? ⟨gb, 2, none⟩ = some (.int .i64 f0) := cell_of_row _ _ 2 _ _ (0, 0) HRB5.out
                  obtain ⟨cw0, cw1, cw2⟩ := HW5.out.cell
                  go_big_region
                  go_wp2_with fail
                  go_ret
                  exact ⟨_, _, _, rfl, HS.out, HB5.out.drew, fun h => absurd h (by decide)⟩
              · have hj2 : T ≤ n := by omega
                have HJN : Hid (¬ (Ju.jumps i.op = true ∧ n < Ju.tgt k i)) := by unfold RowKit.Hid; rw [← HT.out]; omega
                rcases hroom with ⟨hr1, hr2⟩ | hr1
                all_goals
                  go_upto_region 14 with fail
                  obtain ⟨w5, hw5⟩ : ∃ w5, w5 = w4.setCell ⟨g0, 1, none⟩ (.int .i64 m) := ⟨_, rfl⟩
                  rw [← hw5]
                  have HI5 : Hid (w5.heap[w.heap.size]? = some (.cells #[.int .i64 i.op, .int .i32 i.n] 67 (0, 0))) := by unfold RowKit.Hid; rw [hw5, heap_setCell_other _ _ _ _ (by dsimp only; omega)]; exact HI4.out
                  have HRB5 : Hid (w5.heap[gb]? = some (.cells #[.bool true, .int .i64 d0, .int .i64 f0] 78 (0, 0))) := by unfold RowKit.Hid; rw [hw5, heap_setCell_other _ _ _ _ (by dsimp only; omega)]; exact HRB4.out
                  have HW5 : Hid (WkAt w5 g0 g1 n m fu) := by
                    have q := heap_setCell_same _ g0 1 _ _ (.int .i64 m) HW4.out
                    simp only [List.setIfInBounds_toArray, List.set_cons_zero, List.set_cons_succ] at q
                    rw [← hw5] at q
                    exact q
                  have HP5 : Hid (PlAt w5 g1 n s) := by unfold RowKit.Hid PlAt; rw [hw5, heap_setCell_other _ _ _ _ (by dsimp only; omega)]; exact HP4.out
                  have HB5 : Hid (Below B w w5) := by unfold RowKit.Hid; rw [hw5]; exact (HB4.out.mono (by omega)).setCell (by dsimp only; omega) _
                  have HZ5 : Hid (w4.heap.size ≤ w5.heap.size) := by unfold RowKit.Hid; rw [hw5]; simp
                  clear hw5 ci0 ci1 ca0 ca1 ca2 cb0 cb1 cb2 cw0 cw1 cw2 fz hmx
                  have ci0 : w5.cell? ⟨w.heap.size, 0, none⟩ = some (.int .i64 i.op) := cell_of_row _ _ 0 _ _ (0, 0) HI5.out
                  have ci1 : w5.cell? ⟨w.heap.size, 1, none⟩ = some (.int .i32 i.n) := cell_of_row _ _ 1 _ _ (0, 0) HI5.out
                  have cb1 : w5.cell? ⟨gb, 1, none⟩ = some (.int .i64 d0) := cell_of_row _ _ 1 _ _ (0, 0) HRB5.out
                  have cb2 : w5.cell? ⟨gb, 2, none⟩ = some (.int .i64 f0) := cell_of_row _ _ 2 _ _ (0, 0) HRB5.out
                  obtain ⟨cw0, cw1, cw2⟩ := HW5.out.cell
                  go_big_region
                  have HZB5 : Hid (B ≤ w5.heap.size) := by have h1 := HZ5.out; have h2 := HZB4.out; unfold RowKit.Hid; omega
                  go_wp2_with fail
                  refine (jcome2 n (k + 1) _ (d0 - tk + gv) (f0 + 1) (by omega) s g0 g1 m fu w5.drew (by omega) hn HW5.out HP5.out).mono ?_
                  rintro e w6 ⟨q6, r6, hcm6, hq6, rfl, hg6, hp6⟩
                  replace hg6 : w5.grownBy w6 (some g1) := ⟨hg6.os, hg6.tape, hg6.output, hg6.size, hg6.block⟩
                  cases r6 with
                  | none =>
                    obtain rfl : q6 = false := hq6
                    have HW6 : Hid (WkAt w6 g0 g1 n m fu) := kept_row HW5.out hg6 hne
                    have HB6 : Hid (Below B w w6) := HB5.out.grown hg6 HZB5.out (fun g hg => by injection hg with hg; omega)
                    have HP6 := Lib.hid hp6
                    clear hg6 hp6
                    go_wp2_with fail
                    go_ret
                    exact ⟨_, _, _, rfl, HSC1.out d0 f0 HNR.out HK.out HNS.out HJN.out ((if_neg H10.out).trans hcm6), HB6.out, fun h => absurd h (by decide)⟩
                  | some S6 =>
                    obtain rfl : q6 = true := hq6
                    replace hp6 : PlAt w6 g1 n S6 := hp6
                    clear ci0 ci1 cb1 cb2 cw0 cw1 cw2
                    have HW6 : Hid (WkAt w6 g0 g1 n m fu) := kept_row HW5.out hg6 hne
                    have HB6 : Hid (Below B w w6) := HB5.out.grown hg6 HZB5.out (fun g hg => by injection hg with hg; omega)
                    have HP6 := Lib.hid hp6
                    have HI6 := Lib.hid (kept_row HI5.out hg6 (by omega))
                    have HRB6 := Lib.hid (kept_row HRB5.out hg6 (by omega))
                    have HZB6 : Hid (B ≤ w6.heap.size) := by have h1 := hg6.size; have h2 := HZB5.out; unfold RowKit.Hid; omega
                    clear hg6 hp6
                    have ci0 : w6.cell? ⟨w.heap.size, 0, none⟩ = some (.int .i64 i.op) := cell_of_row _ _ 0 _ _ (0, 0) HI6.out
                    have ci1 : w6.cell? ⟨w.heap.size, 1, none⟩ = some (.int .i32 i.n) := cell_of_row _ _ 1 _ _ (0, 0) HI6.out
                    have cb1 : w6.cell? ⟨gb, 1, none⟩ = some (.int .i64 d0) := cell_of_row _ _ 1 _ _ (0, 0) HRB6.out
                    have cb2 : w6.cell? ⟨gb, 2, none⟩ = some (.int .i64 f0) := cell_of_row _ _ 2 _ _ (0, 0) HRB6.out
                    obtain ⟨cw0, cw1, cw2⟩ := HW6.out.cell
                    go_wp2_with fail
                    refine (jcome2 n T _ (d0 - tk + gv) (f0 + 1) rfl S6 g0 g1 m fu w6 hj2 hn HW6.out HP6.out).mono ?_
                    rintro e w7 ⟨q7, r7, hcm7, hq7, rfl, hg7, hp7⟩
                    replace hg7 : w6.grownBy w7 (some g1) := ⟨hg7.os, hg7.tape, hg7.output, hg7.size, hg7.block⟩
                    cases r7 with
                    | none =>
                      obtain rfl : q7 = false := hq7
                      have HW7 : Hid (WkAt w7 g0 g1 n m fu) := kept_row HW6.out hg7 hne
                      have HB7 : Hid (Below B w w7) := HB6.out.grown hg7 HZB6.out (fun g hg => by injection hg with hg; omega)
                      have HP7 := Lib.hid hp7
                      clear hg7 hp7
                      go_wp2_with fail
                      go_ret
                      exact ⟨_, _, _, rfl, HSC2.out d0 f0 _ HNR.out HK.out HNS.out HJN.out ((if_neg H10.out).trans hcm6) ((if_pos HJ.out).trans (by rw [← HT.out]; exact hcm7)), HB7.out, fun h => absurd h (by decide)⟩
                    | some S7 =>
                      obtain rfl : q7 = true := hq7
                      replace hp7 : PlAt w7 g1 n S7 := hp7
                      have HW7 : Hid (WkAt w7 g0 g1 n m fu) := kept_row HW6.out hg7 hne
                      have HB7 : Hid (Below B w w7) := HB6.out.grown hg7 HZB6.out (fun g hg => by injection hg with hg; omega)
                      have HP7 := Lib.hid hp7
                      clear hg7 hp7
                      go_wp2_with fail
                      go_ret
                      exact ⟨_, _, _, rfl, HSOK.out d0 f0 _ _ HNR.out HK.out HNS.out HJN.out ((if_neg H10.out).trans hcm6) ((if_pos HJ.out).trans (by rw [← HT.out]; exact hcm7)), HB7.out, fun _ => ⟨by rw [← HMX.out]; exact HW7.out, HP7.out⟩⟩
            · have HJ : Hid (¬ Ju.jumps i.op = true) := by unfold RowKit.Hid Ju.jumps; simp [h10, h11]
              have H10 := Lib.hid h10
              have h10b : (i.op == 10) = false := by simpa using h10
              have h11b : (i.op == 11) = false := by simpa using h11
              have HJN : Hid (¬ (Ju.jumps i.op = true ∧ n < Ju.tgt k i)) := fun h => HJ.out h.1
              rcases hroom with ⟨hr1, hr2⟩ | hr1
              all_goals
                go_upto_region 14 with fail
                obtain ⟨w5, hw5⟩ : ∃ w5, w5 = w4.setCell ⟨g0, 1, none⟩ (.int .i64 m) := ⟨_, rfl⟩
                rw [← hw5]
                have HI5 : Hid (w5.heap[w.heap.size]? = some (.cells #[.int .i64 i.op, .int .i32 i.n] 67 (0, 0))) := by unfold RowKit.Hid; rw [hw5, heap_setCell_other _ _ _ _ (by dsimp only; omega)]; exact HI4.out
                have HRB5 : Hid (w5.heap[gb]? = some (.cells #[.bool true, .int .i64 d0, .int .i64 f0] 78 (0, 0))) := by unfold RowKit.Hid; rw [hw5, heap_setCell_other _ _ _ _ (by dsimp only; omega)]; exact HRB4.out
                have HW5 : Hid (WkAt w5 g0 g1 n m fu) := by
                  have q := heap_setCell_same _ g0 1 _ _ (.int .i64 m) HW4.out
                  simp only [List.setIfInBounds_toArray, List.set_cons_zero, List.set_cons_succ] at q
                  rw [← hw5] at q
                  exact q
                have HP5 : Hid (PlAt w5 g1 n s) := by unfold RowKit.Hid PlAt; rw [hw5, heap_setCell_other _ _ _ _ (by dsimp only; omega)]; exact HP4.out
                have HB5 : Hid (Below B w w5) := by unfold RowKit.Hid; rw [hw5]; exact (HB4.out.mono (by omega)).setCell (by dsimp only; omega) _
                have HZ5 : Hid (w4.heap.size ≤ w5.heap.size) := by unfold RowKit.Hid; rw [hw5]; simp
                clear hw5 ci0 ci1 ca0 ca1 ca2 cb0 cb1 cb2 cw0 cw1 cw2 fz hmx
                have ci0 : w5.cell? ⟨w.heap.size, 0, none⟩ = some (.int .i64 i.op) := cell_of_row _ _ 0 _ _ (0, 0) HI5.out
                have ci1 : w5.cell? ⟨w.heap.size, 1, none⟩ = some (.int .i32 i.n) := cell_of_row _ _ 1 _ _ (0, 0) HI5.out
                have cb1 : w5.cell? ⟨gb, 1, none⟩ = some (.int .i64 d0) := cell_of_row _ _ 1 _ _ (0, 0) HRB5.out
                have cb2 : w5.cell? ⟨gb, 2, none⟩ = some (.int .i64 f0) := cell_of_row _ _ 2 _ _ (0, 0) HRB5.out
                obtain ⟨cw0, cw1, cw2⟩ := HW5.out.cell
                go_big_region
                have HZB5 : Hid (B ≤ w5.heap.size) := by have h1 := HZ5.out; have h2 := HZB4.out; unfold RowKit.Hid; omega
                go_wp2_with fail
                refine (jcome2 n (k + 1) _ (d0 - tk + gv) (f0 + 1) (by omega) s g0 g1 m fu w5.drew (by omega) hn HW5.out HP5.out).mono ?_
                rintro e w6 ⟨q6, r6, hcm6, hq6, rfl, hg6, hp6⟩
                replace hg6 : w5.grownBy w6 (some g1) := ⟨hg6.os, hg6.tape, hg6.output, hg6.size, hg6.block⟩
                cases r6 with
                | none =>
                  obtain rfl : q6 = false := hq6
                  have HW6 : Hid (WkAt w6 g0 g1 n m fu) := kept_row HW5.out hg6 hne
                  have HB6 : Hid (Below B w w6) := HB5.out.grown hg6 HZB5.out (fun g hg => by injection hg with hg; omega)
                  have HP6 := Lib.hid hp6
                  clear hg6 hp6
                  go_wp2_with fail
                  go_ret
                  exact ⟨_, _, _, rfl, HSC1.out d0 f0 HNR.out HK.out HNS.out HJN.out ((if_neg H10.out).trans hcm6), HB6.out, fun h => absurd h (by decide)⟩
                | some S6 =>
                  obtain rfl : q6 = true := hq6
                  replace hp6 : PlAt w6 g1 n S6 := hp6
                  have HW6 : Hid (WkAt w6 g0 g1 n m fu) := kept_row HW5.out hg6 hne
                  have HB6 : Hid (Below B w w6) := HB5.out.grown hg6 HZB5.out (fun g hg => by injection hg with hg; omega)
                  have HP6 := Lib.hid hp6
                  clear hg6 hp6
                  go_wp2_with fail
                  go_ret
                  exact ⟨_, _, _, rfl, HSOK.out d0 f0 _ _ HNR.out HK.out HNS.out HJN.out ((if_neg H10.out).trans hcm6) (if_neg HJ.out), HB6.out, fun _ => ⟨by rw [← HMX.out]; exact HW6.out, HP6.out⟩⟩
  · obtain ⟨E, hE⟩ : ∃ E, E = Ia.right i := ⟨_, rfl⟩
    rw [← hE] at HRI hr
    have HS : Hid (Ju.step fr n i k s = (E, s, 0)) := by unfold RowKit.Hid Ju.step; rw [← hE, if_pos hr]
    clear h0 h1 hE
    have hE0 : (E != 0) = true := by simpa using hr
    go_enter Try.func41, Try.ntmps41
    go_wp2_with fail
    refine (HRI.out _).mono ?_
    rintro e w1 ⟨rfl, hb1⟩
    have HB1 : Hid (Below w.heap.size w w1) := (((Below.refl _ _).alloc (Nat.le_refl _) _).alloc (by simp) _).trans (hb1.mono (by simp; omega))
    clear hb1
    go_wp2_with fail
    go_ret
    exact ⟨_, _, _, rfl, HS.out, HB1.out.mono (by omega), fun h => absurd h hr⟩
end Go.Proofs.Ytjhopgmionpkoaa
namespace Go.Proofs.Ytjhopgmionpkoaa
set_option maxRecDepth 20000
open Go.RowKit Mem

/-- what is known of the places behind k instructions of n -/
def StOk (n k : Nat) (s : Ju.St) : Prop := (∀ t d f, s t = some (d, f) → 0 ≤ d ∧ d ≤ 16 ∧ 0 ≤ f ∧ f ≤ k) ∧ (k = n → (s n).isSome = true)
theorem come_ok {s s' : Ju.St} {t : Nat} {d f K : Int} (h : Ju.come s t d f = some s') (hs : ∀ t d f, s t = some (d, f) → 0 ≤ d ∧ d ≤ 16 ∧ 0 ≤ f ∧ f ≤ K) (hd : 0 ≤ d ∧ d ≤ 16) (hf : 0 ≤ f ∧ f ≤ K) :
    (∀ t d f, s' t = some (d, f) → 0 ≤ d ∧ d ≤ 16 ∧ 0 ≤ f ∧ f ≤ K) ∧ (s' t).isSome = true ∧ ∀ j, (s j).isSome = true → (s' j).isSome = true := by
  unfold Ju.come at h
  cases ht : s t with
  | none =>
    rw [ht] at h
    injection h with h
    subst h
    refine ⟨fun t' d' f' h' => ?_, by simp [Ju.upd], fun j hj => ?_⟩
    · unfold Ju.upd at h'
      split at h'
      · injection h' with h'; injection h' with h1 h2; subst h1 h2; exact ⟨hd.1, hd.2, hf.1, hf.2⟩
      · exact hs _ _ _ h'
    · unfold Ju.upd; split
      · rfl
      · exact hj
  | some v =>
    obtain ⟨d', f'⟩ := v
    rw [ht] at h
    dsimp only at h
    split at h
    · injection h with h
      subst h
      have h0 := hs _ _ _ ht
      refine ⟨fun t' d2 f2 h' => ?_, by simp [Ju.upd], fun j hj => ?_⟩
      · unfold Ju.upd at h'
        split at h'
        · injection h' with h'; injection h' with h1 h2
          have := Int.max_def f' f
          split at this <;> omega
        · exact hs _ _ _ h'
      · unfold Ju.upd; split
        · rfl
        · exact hj
    · cases h
theorem step_st {fr : Ju.Fr} {n k : Nat} {i : Ia.Ins} {s S : Ju.St} {D : Int} (h : Ju.step fr n i k s = (0, S, D)) (hs : StOk n k s) (_hk : k < n) : StOk n (k + 1) S ∧ 0 ≤ D ∧ D ≤ 16 := by
  obtain ⟨h1, h2⟩ := hs
  obtain ⟨t1, t2, t3, t4⟩ := takes_le i.op
  unfold Ju.step at h
  split at h
  · simp only [Prod.mk.injEq] at h; exact absurd h.1 (by assumption)
  · rename_i hr
    have hr0 : Ia.right i = 0 := by omega
    split at h
    · simp at h
    · cases hsk : s k with
      | none => rw [hsk] at h; simp at h
      | some v =>
        obtain ⟨d0, f0⟩ := v
        rw [hsk] at h
        dsimp only at h
        obtain ⟨b1, b2, b3, b4⟩ := h1 k d0 f0 hsk
        split at h
        · simp at h
        · rename_i hst
          split at h
          · simp at h
          · rename_i hj
            have hK : ∀ t d f, s t = some (d, f) → 0 ≤ d ∧ d ≤ 16 ∧ 0 ≤ f ∧ f ≤ ((k : Int) + 1) := fun t d f e => by have := h1 t d f e; omega
            split at h
            · simp at h
            · rename_i s1 hc1
              split at h
              · simp at h
              · rename_i s2 hc2
                simp only [Prod.mk.injEq, true_and] at h
                obtain ⟨rfl, rfl⟩ := h
                have hd : 0 ≤ d0 - Ju.takes i.op + Ju.gives i.op ∧ d0 - Ju.takes i.op + Ju.gives i.op ≤ 16 := by omega
                have hf : 0 ≤ f0 + 1 ∧ f0 + 1 ≤ (k : Int) + 1 := by omega
                have A : (∀ t d f, s1 t = some (d, f) → 0 ≤ d ∧ d ≤ 16 ∧ 0 ≤ f ∧ f ≤ ((k : Int) + 1)) ∧ (i.op ≠ 10 → (s1 (k + 1)).isSome = true) := by
                  split at hc1
                  · injection hc1 with hc1; subst hc1
                    exact ⟨hK, fun h => absurd (by assumption) h⟩
                  · obtain ⟨q1, q2, _⟩ := come_ok hc1 hK hd hf
                    exact ⟨q1, fun _ => q2⟩
                have C : (∀ t d f, s2 t = some (d, f) → 0 ≤ d ∧ d ≤ 16 ∧ 0 ≤ f ∧ f ≤ ((k : Int) + 1)) ∧ (k + 1 = n → (s2 n).isSome = true) := by
                  split at hc2
                  · rename_i hjj
                    obtain ⟨q1, q2, q3⟩ := come_ok hc2 A.1 hd hf
                    refine ⟨q1, fun e => ?_⟩
                    by_cases h10 : i.op = 10
                    · have hn := right_n hr0 hjj
                      have : Ju.tgt k i = n := by
                        have h5 : ¬ n < Ju.tgt k i := fun hh => hj ⟨hjj, hh⟩
                        unfold Ju.tgt at h5 ⊢
                        omega
                      rw [← this]; exact q2
                    · rw [← e]; exact q3 _ (A.2 h10)
                  · rename_i hjj
                    injection hc2 with hc2; subst hc2
                    refine ⟨A.1, fun e => ?_⟩
                    rw [← e]
                    exact A.2 (fun h10 => hjj (by rw [h10]; rfl))
                exact ⟨⟨fun t d f e => by have := C.1 t d f e; omega, C.2⟩, hd.1, hd.2⟩
theorem st_first (n : Nat) : StOk n 0 Ju.first := by
  refine ⟨fun t d f h => ?_, fun h => by subst h; rfl⟩
  unfold Ju.first at h
  split at h
  · injection h with h; injection h with h1 h2; subst h1 h2; omega
  · cases h
end Go.Proofs.Ytjhopgmionpkoaa
namespace Go.Proofs.Ytjhopgmionpkoaa
set_option maxRecDepth 20000
open Go.RowKit Mem

theorem infoPlace : (Try.prog.info? 78).map (fun i => (i.zero, i.size, i.bytes)) = some (some (.agg #[.bool false, .int .i64 0, .int .i64 0]), 3, 24) := by kernel_rfl
theorem made_places (n : Nat) : madeCells (Value.agg #[.bool false, .int .i64 0, .int .i64 0]).cells ((n + 1) * 3) = plCells n (fun _ => none) := by
  refine pl_ext n _ _ (by rw [size_madeCells]; omega) (fun j hj => ?_)
  have hz : (Value.agg #[.bool false, .int .i64 0, .int .i64 0]).cells = #[.bool false, .int .i64 0, .int .i64 0] := rfl
  unfold madeCells
  rw [hz, Array.getElem?_map, Array.getElem?_range, if_pos (by omega)]
  unfold cellOf
  have h3 : j % 3 = 0 ∨ j % 3 = 1 ∨ j % 3 = 2 := by omega
  rcases h3 with h | h | h
  · simp [h]
  · simp [h]
  · simp [h]
theorem make_places (n : Nat) (hn : n ≤ 600) (w : World) : (Instr.makeSlice 74 (.int .i64 ((n : Int) + 1)) (.int .i64 ((n : Int) + 1))).run Try.prog w = .ok (.slice (some ⟨w.heap.size, 0, none⟩) (n + 1) (n + 1)) (w.alloc (.cells (plCells n (fun _ => none)) 78)) := by
  obtain ⟨i, hi, hz, hs, hb⟩ := info_parts infoPlace
  have := run_make (P := Try.prog) w 74 78 i _ Try.underlying74 hi hz .i64 .i64 ((n : Int) + 1) ((n : Int) + 1) (by omega) (by omega) (by rw [hb]; omega) (by omega)
  have e : ((n : Int) + 1).toNat = n + 1 := by omega
  rw [this, e, hs, made_places]
theorem pl_first (n : Nat) : (plCells n (fun _ => none)).setIfInBounds 0 (.bool true) = plCells n Ju.first := by
  refine pl_ext n _ _ (by simp [pl_size]) (fun j hj => ?_)
  by_cases h0 : j = 0
  · subst h0
    rw [Array.getElem?_setIfInBounds_self_of_lt (by rw [pl_size]; omega)]
    rfl
  · rw [Array.getElem?_setIfInBounds_ne (by omega), pl_get n _ j hj]
    unfold cellOf Ju.first
    by_cases h3 : j / 3 = 0
    · have hm : ¬ j % 3 = 0 := by omega
      rw [if_pos h3]
      dsimp only
      rw [if_neg hm, if_neg hm]
      split <;> rfl
    · rw [if_neg h3]
theorem ret_rep {fn : Func} {R : Ending → World → Prop} {a : Act} {W : World} {g : Nat} {v0 v1 x y : Value} (s t u : Nat) (hr : fn.results = #[.cell s 47, .tmp t, .tmp u])
    (h2 : a.tmps.getD s undef = .pointer (some ⟨g, 0, none⟩)) (h3 : a.tmps.getD t undef = x) (h4 : a.tmps.getD u undef = y) (hd : a.defers = [])
    (c0 : W.cell? ⟨g, 0, none⟩ = some v0) (c1 : W.cell? ⟨g, 1, none⟩ = some v1)
    (hR : R (.returned (.tuple #[.agg #[v0, v1], x, y])) W) : bodyPost Try.prog fn R .ret a W := by
  refine bodyPost_ret ?_ hd hR
  have h2' : a.tmps[s]?.getD undef = .pointer (some ⟨g, 0, none⟩) := by simpa using h2
  have h3' : a.tmps[t]?.getD undef = x := by simpa using h3
  have h4' : a.tmps[u]?.getD undef = y := by simpa using h4
  simp [results, hr, h2', h3', h4', go_sem, c0, c1]
theorem rep_row2 {W : World} {g : Nat} {t : TypeId} {a b : Value} (h : W.heap[g]? = some (.cells #[a, b] t (0, 0))) (u v : Value) (o : Obj) : (((W.setCell ⟨g, 0, none⟩ u).setCell ⟨g, 1, none⟩ v).alloc o).heap[g]? = some (.cells #[u, v] t (0, 0)) := by
  have h0 := heap_setCell_same _ g 0 _ t u h
  have h1 := heap_setCell_same _ g 1 _ t v h0
  rw [heap_alloc_old _ _ (Array.getElem?_eq_some_iff.1 h1).1, h1]
  simp only [List.setIfInBounds_toArray, List.set_cons_zero, List.set_cons_succ]
def JPost (fr : Ju.Fr) (l : List Ia.Ins) (w : World) (e : Ending) (w' : World) : Prop :=
  ∃ r, r = Ju.check fr l ∧ e = .returned (.tuple #[.agg #[.int .i64 r.dp, .int .i64 r.fu], .int .i64 r.er, .int .i64 r.at_]) ∧ Below w.heap.size w w'
theorem check_run {fr : Ju.Fr} {l : List Ia.Ins} (h1 : Ju.okFr fr = true) (h2 : ¬ 600 < l.length) : Ju.check fr l = Ju.run fr l.length l 0 Ju.first 0 := by
  unfold Ju.check; rw [if_neg (by rw [h1]; decide), if_neg h2]
theorem run_step {fr : Ju.Fr} {l : List Ia.Ins} {k : Nat} (h : k < l.length) {s S : Ju.St} {top E D : Int} (hs : Ju.step fr l.length (l[k]'h) k s = (E, S, D)) : Ju.run fr l.length (l.drop k) k s top = if E ≠ 0 then ⟨0, 0, E, k⟩ else Ju.run fr l.length (l.drop (k + 1)) (k + 1) S (max top D) := by
  rw [List.drop_eq_getElem_cons h, Ju.run, hs]
set_option maxRecDepth 100000 in
set_option maxHeartbeats 8000000 in
theorem jcheck (fr : Ju.Fr) (l : List Ia.Ins) (A : Option Addr) (c : Nat) (w : World) (hA : InsAt w A l) (hn : l.length ≤ 4611686018427387904) (hr : ∀ k (h : k < l.length), -2147483648 ≤ (l[k]'h).n ∧ (l[k]'h).n ≤ 2147483647) :
    Calls Try.prog 23 #[.slice A l.length c, frAgg fr] w fun e w' => JPost fr l w e w' := by
  have HA := Lib.hid hA
  have HR := Lib.hid hr
  have HFR := Lib.hid (fun (W : World) => jframe fr W)
  unfold frAgg at *
  clear hA hr
  by_cases hok : Ju.okFr fr = true
  · have HOK := Lib.hid hok
    have he : frErr fr = 0 := by unfold frErr; rw [if_pos hok]
    rw [he] at HFR
    clear hok he
    by_cases hbig : 600 < l.length
    · have HE : Hid (⟨0, 0, 3, 0⟩ = Ju.check fr l) := by unfold RowKit.Hid Ju.check; rw [if_neg (by rw [HOK.out]; decide), if_pos hbig]
      go_enter Try.func23, Try.ntmps23
      go_wp2_with fail
      obtain ⟨W0, hW0⟩ : ∃ W0, W0 = (w.alloc (.cells #[.int .i64 fr.sl, .int .i64 fr.ol, .int .i64 fr.nw, .int .i64 fr.is, .int .i64 fr.os] 24)).alloc (.cells #[.int .i64 0, .int .i64 0] 47) := ⟨_, rfl⟩
      rw [← hW0]
      have HF0 : Hid (W0.heap[w.heap.size]? = some (.cells #[.int .i64 fr.sl, .int .i64 fr.ol, .int .i64 fr.nw, .int .i64 fr.is, .int .i64 fr.os] 24 (0, 0))) := by unfold RowKit.Hid; rw [hW0]; exact heap_alloc2_old _ _ _
      have HR0 : Hid (W0.heap[w.heap.size + 1]? = some (.cells #[.int .i64 0, .int .i64 0] 47 (0, 0))) := by unfold RowKit.Hid; rw [hW0]; exact heap_alloc2_new _ _ _
      have HB0 : Hid (Below w.heap.size w W0) := by unfold RowKit.Hid; rw [hW0]; exact ((Below.refl _ _).alloc (Nat.le_refl _) _).alloc (by simp) _
      clear hW0
      refine (HFR.out _).mono ?_
      rintro e w1 ⟨rfl, hb1⟩
      have HF1 := Lib.hid ((hb1.block _ (Array.getElem?_eq_some_iff.1 HF0.out).1).trans HF0.out)
      have HR1 := Lib.hid ((hb1.block _ (Array.getElem?_eq_some_iff.1 HR0.out).1).trans HR0.out)
      have HB1 := Lib.hid (HB0.out.trans (hb1.mono HB0.out.size))
      clear hb1 HF0 HR0 HB0
      have cr0 : w1.cell? ⟨w.heap.size + 1, 0, none⟩ = some (.int .i64 0) := cell_of_row _ _ 0 _ _ (0, 0) HR1.out
      have cr1 : w1.cell? ⟨w.heap.size + 1, 1, none⟩ = some (.int .i64 0) := cell_of_row _ _ 1 _ _ (0, 0) HR1.out
      have fr0 : w1.frozen? ⟨w.heap.size + 1, 0, none⟩ = false := frozen_of_row _ _ _ _ _ HR1.out
      have fr1 : w1.frozen? ⟨w.heap.size + 1, 1, none⟩ = false := frozen_of_row _ _ _ _ _ HR1.out
      go_wp2_with fail
      refine ret_rep (v0 := .int .i64 0) (v1 := .int .i64 0) 4 5 6 rfl rfl rfl rfl rfl ?_ ?_ ?_
      · simp [go_sem, cr0]
      · simp [go_sem, cr1]
      exact ⟨_, HE.out, rfl, (HB1.out.setCell (by dsimp only; omega) _).setCell (by dsimp only; omega) _⟩
    · have HCR := Lib.hid (check_run HOK.out hbig)
      have hn6 : l.length ≤ 600 := by omega
      have hmk := make_places l.length hn6
      have hp0 : (plCells l.length (fun _ => none))[0]? = some (.bool false) := pl_get _ _ 0 (by omega)
      have HPF := Lib.hid (pl_first l.length)
      generalize plCells l.length (fun _ => none) = pz at *
      go_enter Try.func23, Try.ntmps23
      go_wp2_with fail
      obtain ⟨W0, hW0⟩ : ∃ W0, W0 = (w.alloc (.cells #[.int .i64 fr.sl, .int .i64 fr.ol, .int .i64 fr.nw, .int .i64 fr.is, .int .i64 fr.os] 24)).alloc (.cells #[.int .i64 0, .int .i64 0] 47) := ⟨_, rfl⟩
      rw [← hW0]
      have HF0 : Hid (W0.heap[w.heap.size]? = some (.cells #[.int .i64 fr.sl, .int .i64 fr.ol, .int .i64 fr.nw, .int .i64 fr.is, .int .i64 fr.os] 24 (0, 0))) := by unfold RowKit.Hid; rw [hW0]; exact heap_alloc2_old _ _ _
      have HR0 : Hid (W0.heap[w.heap.size + 1]? = some (.cells #[.int .i64 0, .int .i64 0] 47 (0, 0))) := by unfold RowKit.Hid; rw [hW0]; exact heap_alloc2_new _ _ _
      have HB0 : Hid (Below w.heap.size w W0) := by unfold RowKit.Hid; rw [hW0]; exact ((Below.refl _ _).alloc (Nat.le_refl _) _).alloc (by simp) _
      clear hW0
      refine (HFR.out _).mono ?_
      rintro e w1 ⟨rfl, hb1⟩
      have HF1 := Lib.hid ((hb1.block _ (Array.getElem?_eq_some_iff.1 HF0.out).1).trans HF0.out)
      have HR1 := Lib.hid ((hb1.block _ (Array.getElem?_eq_some_iff.1 HR0.out).1).trans HR0.out)
      have HB1 := Lib.hid (HB0.out.trans (hb1.mono HB0.out.size))
      clear hb1 HF0 HR0 HB0
      go_wp2_with fail
      rw [HPF.out]
      obtain ⟨W2, hW2⟩ : ∃ W2, W2 = (w1.alloc (.cells (plCells l.length Ju.first) 78)).alloc (.cells #[.slice (some ⟨w1.heap.size, 0, none⟩) (l.length + 1) (l.length + 1), .int .i64 0, .int .i64 0] 76) := ⟨_, rfl⟩
      rw [← hW2]
      have HP2 : Hid (PlAt W2 w1.heap.size l.length Ju.first) := by unfold RowKit.Hid; rw [hW2]; exact heap_alloc2_old _ _ _
      have HW2 : Hid (WkAt W2 (w1.heap.size + 1) w1.heap.size l.length 0 0) := by unfold RowKit.Hid; rw [hW2]; exact heap_alloc2_new _ _ _
      have HB2 : Hid (Below w1.heap.size w1 W2) := by unfold RowKit.Hid; rw [hW2]; exact ((Below.refl _ _).alloc (Nat.le_refl _) _).alloc (by simp) _
      have hlf : w.heap.size + 1 < w1.heap.size := (Array.getElem?_eq_some_iff.1 HR1.out).1
      clear hW2 hmk hp0 HPF HFR
      go_loopw [37] (fun i wr => ∃ (k : Nat) (s : Ju.St) (top : Int), k ≤ l.length ∧ i = .int .i64 k ∧ Hid (Ju.check fr l = Ju.run fr l.length (l.drop k) k s top) ∧ Hid (StOk l.length k s) ∧ Hid (WkAt wr (w1.heap.size + 1) w1.heap.size l.length top 0) ∧ Hid (PlAt wr w1.heap.size l.length s) ∧ Hid (Below w1.heap.size w1 wr)) (fun i _ => l.length - (intOf i).toNat)
      case atStart => exact ⟨0, Ju.first, 0, Nat.zero_le _, rfl, HCR, st_first _, HW2, HP2, HB2⟩
      case round =>
        obtain ⟨k, s, top, hk, rfl, hrun, hst, hW, hP, hB⟩ := hrel
        have HFr := Lib.hid ((hB.out.block _ (by omega)).trans HF1.out)
        have HRr := Lib.hid ((hB.out.block _ (by omega)).trans HR1.out)
        have hzr : w1.heap.size + 1 < wr.heap.size := (Array.getElem?_eq_some_iff.1 hW.out).1
        have hzw : w.heap.size < wr.heap.size := by omega
        have hzw1 : w.heap.size + 1 < wr.heap.size := by omega
        have hzp : w1.heap.size < wr.heap.size := by omega
        have cf0 : wr.cell? ⟨w.heap.size, 0, none⟩ = some (.int .i64 fr.sl) := cell_of_row _ _ 0 _ _ (0, 0) HFr.out
        have cf1 : wr.cell? ⟨w.heap.size, 1, none⟩ = some (.int .i64 fr.ol) := cell_of_row _ _ 1 _ _ (0, 0) HFr.out
        have cf2 : wr.cell? ⟨w.heap.size, 2, none⟩ = some (.int .i64 fr.nw) := cell_of_row _ _ 2 _ _ (0, 0) HFr.out
        have cf3 : wr.cell? ⟨w.heap.size, 3, none⟩ = some (.int .i64 fr.is) := cell_of_row _ _ 3 _ _ (0, 0) HFr.out
        have cf4 : wr.cell? ⟨w.heap.size, 4, none⟩ = some (.int .i64 fr.os) := cell_of_row _ _ 4 _ _ (0, 0) HFr.out
        by_cases hlt : k < l.length
        · obtain ⟨b, off, rfl, c0, c1⟩ := (HA.out.below HB1.out (Nat.le_refl _)).below hB.out (Nat.le_refl _) k hlt
          have hq := HR.out k hlt
          have HQ1 := Lib.hid hq.1
          have HQ2 := Lib.hid hq.2
          have HRS := Lib.hid (fun (S : Ju.St) (E D : Int) (hs : Ju.step fr l.length (l[k]'hlt) k s = (E, S, D)) => hrun.out.trans (run_step hlt (top := top) hs))
          have HSS := Lib.hid (fun (S : Ju.St) (D : Int) (hs : Ju.step fr l.length (l[k]'hlt) k s = (0, S, D)) => step_st hs hst.out hlt)
          clear hq hrun
          generalize l[k]'hlt = ins at *
          have r0 : (0 : Int) ≤ k := by omega
          have r1 : (k : Int) < (l.length : Int) := by omega
          go_wp2_with fail
          have HWa : Hid (WkAt (wr.alloc (.cells #[.int .i64 ins.op, .int .i32 ins.n] 67)) (w1.heap.size + 1) w1.heap.size l.length top 0) := (heap_alloc_old _ _ hzr).trans hW.out
          have HPa : Hid (PlAt (wr.alloc (.cells #[.int .i64 ins.op, .int .i32 ins.n] 67)) w1.heap.size l.length s) := (heap_alloc_old _ _ (by omega)).trans hP.out
          refine (jone fr l.length k ins s (w1.heap.size + 1) w1.heap.size w1.heap.size top 0 _ hlt hn6 HQ1.out HQ2.out (fun d f h => by have := hst.out.1 k d f h; omega) HWa.out HPa.out (by omega) (Nat.le_refl _) (by omega)).mono ?_
          rintro e w4 ⟨E, S, D, rfl, hstep, hb4, hkeep⟩
          have HB4 := Lib.hid ((hB.out.alloc (by omega) _).trans hb4)
          clear hb4 cf0 cf1 cf2 cf3 cf4 c0 c1 HWa HPa hW hP
          by_cases hE : E = 0
          · subst hE
            have HRN : Hid (Ju.check fr l = Ju.run fr l.length (l.drop (k + 1)) (k + 1) S (max top D)) := (HRS.out _ _ _ hstep).trans (if_neg (by simp))
            have HSN := Lib.hid (HSS.out _ _ hstep).1
            have HK1 := Lib.hid (hkeep rfl).1
            have HK2 := Lib.hid (hkeep rfl).2
            clear hkeep hstep HRS HSS
            go_wp2_with fail
            go_roundw
            case rel => exact ⟨k + 1, S, max top D, by omega, by go_num, HRN, HSN, HK1, HK2, HB4⟩
            case measure => simp [intOf]; omega
          · have HE : Hid (⟨0, 0, E, k⟩ = Ju.check fr l) := ((HRS.out _ _ _ hstep).trans (if_pos hE)).symm
            have hne : (E != 0) = true := by simpa using hE
            have HR4 := Lib.hid ((HB4.out.block _ (by omega)).trans HR1.out)
            have HB5 := Lib.hid (HB1.out.trans (HB4.out.mono HB1.out.size))
            clear hkeep hstep HRS HSS
            have cr0 : w4.cell? ⟨w.heap.size + 1, 0, none⟩ = some (.int .i64 0) := cell_of_row _ _ 0 _ _ (0, 0) HR4.out
            have cr1 : w4.cell? ⟨w.heap.size + 1, 1, none⟩ = some (.int .i64 0) := cell_of_row _ _ 1 _ _ (0, 0) HR4.out
            have fr0 : w4.frozen? ⟨w.heap.size + 1, 0, none⟩ = false := frozen_of_row _ _ _ _ _ HR4.out
            have fr1 : w4.frozen? ⟨w.heap.size + 1, 1, none⟩ = false := frozen_of_row _ _ _ _ _ HR4.out
            go_wp2_with fail
            refine ret_rep (v0 := .int .i64 0) (v1 := .int .i64 0) 4 5 6 rfl rfl rfl rfl rfl ?_ ?_ ?_
            · simp [go_sem, cr0]
            · simp [go_sem, cr1]
            exact ⟨_, HE.out, rfl, (HB5.out.setCell (by dsimp only; omega) _).setCell (by dsimp only; omega) _⟩
        · obtain rfl : k = l.length := by omega
          have hrn := hrun.out
          rw [List.drop_length] at hrn
          obtain ⟨v, hv⟩ := Option.isSome_iff_exists.1 (hst.out.2 rfl)
          obtain ⟨d, fu⟩ := v
          unfold Ju.run at hrn
          rw [hv] at hrn
          dsimp only at hrn
          have HRN := Lib.hid hrn
          obtain ⟨e0, e1, e2⟩ := cellOf_some hv
          have p0 := hP.out.cell (l.length * 3) (by omega)
          have p1 := hP.out.cell (l.length * 3 + 1) (by omega)
          have p2 := hP.out.cell (l.length * 3 + 2) (by omega)
          rw [e0] at p0
          rw [e1] at p1
          rw [e2] at p2
          dsimp only at p1 p2
          obtain ⟨cw0, cw1, cw2⟩ := hW.out.cell
          have fw2 : wr.frozen? ⟨w1.heap.size + 1, 2, none⟩ = false := frozen_of_row _ _ _ _ _ hW.out
          have HB5 := Lib.hid (HB1.out.trans (hB.out.mono HB1.out.size))
          clear hrn hv e0 e1 e2 hrun
          have cr0 : wr.cell? ⟨w.heap.size + 1, 0, none⟩ = some (.int .i64 0) := cell_of_row _ _ 0 _ _ (0, 0) HRr.out
          have cr1 : wr.cell? ⟨w.heap.size + 1, 1, none⟩ = some (.int .i64 0) := cell_of_row _ _ 1 _ _ (0, 0) HRr.out
          have fr0 : wr.frozen? ⟨w.heap.size + 1, 0, none⟩ = false := frozen_of_row _ _ _ _ _ HRr.out
          have fr1 : wr.frozen? ⟨w.heap.size + 1, 1, none⟩ = false := frozen_of_row _ _ _ _ _ HRr.out
          by_cases hd : d = 0
          · subst hd
            have HE : Hid (⟨top, fu, 0, 0⟩ = Ju.check fr l) := (HRN.out.trans (if_pos rfl)).symm
            go_wp2_with fail
            have hrow := rep_row2 ((heap_setCell_other wr ⟨w1.heap.size + 1, 2, none⟩ (w.heap.size + 1) (.int .i64 fu) (by dsimp only; omega)).trans HRr.out) (.int .i64 top) (.int .i64 fu) (.cells #[.bool true, .int .i64 0, .int .i64 fu] 78)
            refine ret_rep (v0 := .int .i64 top) (v1 := .int .i64 fu) 4 5 6 rfl rfl rfl rfl rfl (cell_of_row _ _ 0 _ _ (0, 0) hrow) (cell_of_row _ _ 1 _ _ (0, 0) hrow) ?_
            exact ⟨_, HE.out, rfl, (((HB5.out.setCell (by dsimp only; omega) _).setCell (by dsimp only; omega) _).setCell (by dsimp only; omega) _).alloc (by simp; omega) _⟩
          · have HE : Hid (⟨0, 0, 12, l.length⟩ = Ju.check fr l) := (HRN.out.trans (if_neg hd)).symm
            have hne : (d != 0) = true := by simpa using hd
            go_wp2_with fail
            have hrow := rep_row2 (HRr.out) (.int .i64 0) (.int .i64 0) (.cells #[.bool true, .int .i64 d, .int .i64 fu] 78)
            refine ret_rep (v0 := .int .i64 0) (v1 := .int .i64 0) 4 5 6 rfl rfl rfl rfl rfl (cell_of_row _ _ 0 _ _ (0, 0) hrow) (cell_of_row _ _ 1 _ _ (0, 0) hrow) ?_
            exact ⟨_, HE.out, rfl, ((HB5.out.setCell (by dsimp only; omega) _).setCell (by dsimp only; omega) _).alloc (by simp; omega) _⟩
  · have he : frErr fr = 1 := by unfold frErr; rw [if_neg hok]
    rw [he] at HFR
    have HE : Hid (⟨0, 0, 1, 0⟩ = Ju.check fr l) := by unfold RowKit.Hid Ju.check; rw [if_pos (by simpa using hok)]
    clear hok he
    go_enter Try.func23, Try.ntmps23
    go_wp2_with fail
    obtain ⟨W0, hW0⟩ : ∃ W0, W0 = (w.alloc (.cells #[.int .i64 fr.sl, .int .i64 fr.ol, .int .i64 fr.nw, .int .i64 fr.is, .int .i64 fr.os] 24)).alloc (.cells #[.int .i64 0, .int .i64 0] 47) := ⟨_, rfl⟩
    rw [← hW0]
    have HF0 : Hid (W0.heap[w.heap.size]? = some (.cells #[.int .i64 fr.sl, .int .i64 fr.ol, .int .i64 fr.nw, .int .i64 fr.is, .int .i64 fr.os] 24 (0, 0))) := by unfold RowKit.Hid; rw [hW0]; exact heap_alloc2_old _ _ _
    have HR0 : Hid (W0.heap[w.heap.size + 1]? = some (.cells #[.int .i64 0, .int .i64 0] 47 (0, 0))) := by unfold RowKit.Hid; rw [hW0]; exact heap_alloc2_new _ _ _
    have HB0 : Hid (Below w.heap.size w W0) := by unfold RowKit.Hid; rw [hW0]; exact ((Below.refl _ _).alloc (Nat.le_refl _) _).alloc (by simp) _
    clear hW0
    refine (HFR.out _).mono ?_
    rintro e w1 ⟨rfl, hb1⟩
    have HF1 := Lib.hid ((hb1.block _ (Array.getElem?_eq_some_iff.1 HF0.out).1).trans HF0.out)
    have HR1 := Lib.hid ((hb1.block _ (Array.getElem?_eq_some_iff.1 HR0.out).1).trans HR0.out)
    have HB1 := Lib.hid (HB0.out.trans (hb1.mono HB0.out.size))
    clear hb1 HF0 HR0 HB0
    have cr0 : w1.cell? ⟨w.heap.size + 1, 0, none⟩ = some (.int .i64 0) := cell_of_row _ _ 0 _ _ (0, 0) HR1.out
    have cr1 : w1.cell? ⟨w.heap.size + 1, 1, none⟩ = some (.int .i64 0) := cell_of_row _ _ 1 _ _ (0, 0) HR1.out
    have fr0 : w1.frozen? ⟨w.heap.size + 1, 0, none⟩ = false := frozen_of_row _ _ _ _ _ HR1.out
    have fr1 : w1.frozen? ⟨w.heap.size + 1, 1, none⟩ = false := frozen_of_row _ _ _ _ _ HR1.out
    go_wp2_with fail
    refine ret_rep (v0 := .int .i64 0) (v1 := .int .i64 0) 4 5 6 rfl rfl rfl rfl rfl ?_ ?_ ?_
    · simp [go_sem, cr0]
    · simp [go_sem, cr1]
    exact ⟨_, HE.out, rfl, (HB1.out.setCell (by dsimp only; omega) _).setCell (by dsimp only; omega) _⟩
end Go.Proofs.Ytjhopgmionpkoaa
namespace Go.Proofs.Ytjhopgmionpkoaa
set_option maxRecDepth 20000
open Go.RowKit Go.ChangeShapes Go.WideShapes Go.Deep Mem

theorem array5 {α : Type} {cs : Array α} (h : cs.size = 5) : ∃ c0 c1 c2 c3 c4, cs = #[c0, c1, c2, c3, c4] := by
  obtain ⟨l⟩ := cs
  match l, h with
  | [c0, c1, c2, c3, c4], _ => exact ⟨c0, c1, c2, c3, c4, rfl⟩
theorem list5 {α : Type} {cs : List α} (h : cs.length = 5) : ∃ c0 c1 c2 c3 c4, cs = [c0, c1, c2, c3, c4] := by
  match cs, h with
  | [c0, c1, c2, c3, c4], _ => exact ⟨c0, c1, c2, c3, c4, rfl⟩
def In64 (n : Int) : Prop := -9223372036854775808 ≤ n ∧ n ≤ 9223372036854775807
theorem open_frame {H : Type} {enc : TypeId × Value → H} {w : World} {b0 : Nat} {spare : Nat → Bool} {held : Bool} {r : Reach} {v : Value} {d : DataW H} {p : List MemPlace}
    (hv : Value.okWide Try.prog w r b0 24 v) (h : DataW.Trod enc Try.prog w 0 spare held 24 v d p) (_hsz : ∀ n ∈ d.weights Try.prog 24, n ≤ reachBytes) :
    ∃ (f : Ju.Fr), v = frAgg f ∧ (In64 f.sl ∧ In64 f.ol ∧ In64 f.nw ∧ In64 f.is ∧ In64 f.os) := by
  obtain ⟨cs, rfl, hsz⟩ := okWide_struct Try.underlying24 hv
  have hC : Try.prog.cellsOf 24 = 5 := by kernel_rfl
  have hI : Try.prog.cellsOf 3 = 1 := by kernel_rfl
  obtain ⟨c0, c1, c2, c3, c4, rfl⟩ := array5 (hsz.trans hC)
  obtain ⟨fuel, hf⟩ := h
  obtain ⟨xs, n, _, _, _, hlen, hg⟩ := DataW.trod_struct Try.underlying24 hf
  obtain ⟨y0, y1, y2, y3, y4, rfl⟩ := list5 hlen
  have g0 : DataW.trod enc Try.prog w 0 spare held n 3 (([c0, c1, c2, c3, c4].drop 0).take (Try.prog.cellsOf 3)) = some y0 := hg 0 _ rfl
  rw [hI] at g0
  have g1 : DataW.trod enc Try.prog w 0 spare held n 3 (([c0, c1, c2, c3, c4].drop 1).take (Try.prog.cellsOf 3)) = some y1 := hg 1 _ rfl
  rw [hI] at g1
  have g2 : DataW.trod enc Try.prog w 0 spare held n 3 (([c0, c1, c2, c3, c4].drop 2).take (Try.prog.cellsOf 3)) = some y2 := hg 2 _ rfl
  rw [hI] at g2
  have g3 : DataW.trod enc Try.prog w 0 spare held n 3 (([c0, c1, c2, c3, c4].drop 3).take (Try.prog.cellsOf 3)) = some y3 := hg 3 _ rfl
  rw [hI] at g3
  have g4 : DataW.trod enc Try.prog w 0 spare held n 3 (([c0, c1, c2, c3, c4].drop 4).take (Try.prog.cellsOf 3)) = some y4 := hg 4 _ rfl
  rw [hI] at g4
  obtain ⟨n0, e0, _, w0⟩ := DataW.trod_int Try.underlying3 g0
  obtain ⟨n1, e1, _, w1⟩ := DataW.trod_int Try.underlying3 g1
  obtain ⟨n2, e2, _, w2⟩ := DataW.trod_int Try.underlying3 g2
  obtain ⟨n3, e3, _, w3⟩ := DataW.trod_int Try.underlying3 g3
  obtain ⟨n4, e4, _, w4⟩ := DataW.trod_int Try.underlying3 g4
  simp at e0 e1 e2 e3 e4
  subst e0 e1 e2 e3 e4
  exact ⟨⟨n0, n1, n2, n3, n4⟩, rfl, wf64 w0, wf64 w1, wf64 w2, wf64 w3, wf64 w4⟩
def kFr : Ju.Fr := ⟨0, 0, 0, 1, 1⟩
def kIns : List Ia.Ins := [⟨6, 0⟩, ⟨11, 2⟩, ⟨1, 7⟩, ⟨7, 0⟩]
def kIns2 : List Ia.Ins := [⟨1, 1⟩]
theorem k_one : Ju.check kFr kIns = ⟨1, 4, 0, 0⟩ := by kernel_rfl
theorem k_two : Ju.check kFr kIns2 = ⟨0, 0, 12, 1⟩ := by kernel_rfl
theorem insAt_new {W : World} {l : List Ia.Ins} {g : Nat} {t : TypeId} {cs : Array Value} (h : W.heap[g]? = some (.cells cs t (0, 0))) (hc : cs = (insCells l).toArray) : InsAt W (some ⟨g, 0, none⟩) l := by
  intro k hk
  subst hc
  obtain ⟨h0, h1⟩ := insCells_at l k hk
  refine ⟨g, 0, rfl, ?_, ?_⟩
  · rw [Nat.zero_add, cell_of_row W g (k * 2) _ _ (0, 0) h, List.getElem?_toArray]; exact h0
  · rw [Nat.zero_add, cell_of_row W g (k * 2 + 1) _ _ (0, 0) h, List.getElem?_toArray]; exact h1
theorem kcheck1 (w : World) (g : Nat) (h : w.heap[g]? = some (.cells #[.int .i64 6, .int .i32 0, .int .i64 11, .int .i32 2, .int .i64 1, .int .i32 7, .int .i64 7, .int .i32 0] 67 (0, 0))) :
    Calls Try.prog 23 #[.slice (some ⟨g, 0, none⟩) 4 4, .agg #[.int .i64 0, .int .i64 0, .int .i64 0, .int .i64 1, .int .i64 1]] w fun e w' => e = .returned (.tuple #[.agg #[.int .i64 1, .int .i64 4], .int .i64 0, .int .i64 0]) ∧ Below w.heap.size w w' := by
  refine (jcheck kFr kIns (some ⟨g, 0, none⟩) 4 w (insAt_new h rfl) (by decide) (by decide)).mono ?_
  rintro e w' ⟨r, hr, he, hb⟩
  rw [k_one] at hr
  subst hr
  exact ⟨he, hb⟩
theorem kcheck2 (w : World) (g : Nat) (h : w.heap[g]? = some (.cells #[.int .i64 1, .int .i32 1] 67 (0, 0))) :
    Calls Try.prog 23 #[.slice (some ⟨g, 0, none⟩) 1 1, .agg #[.int .i64 0, .int .i64 0, .int .i64 0, .int .i64 1, .int .i64 1]] w fun e w' => e = .returned (.tuple #[.agg #[.int .i64 0, .int .i64 0], .int .i64 12, .int .i64 1]) ∧ Below w.heap.size w w' := by
  refine (jcheck kFr kIns2 (some ⟨g, 0, none⟩) 1 w (insAt_new h rfl) (by decide) (by decide)).mono ?_
  rintro e w' ⟨r, hr, he, hb⟩
  rw [k_two] at hr
  subst hr
  exact ⟨he, hb⟩
theorem kframe (w : World) : Calls Try.prog 40 #[.agg #[.int .i64 0, .int .i64 0, .int .i64 0, .int .i64 1, .int .i64 1]] w fun e w' => e = .returned (.int .i64 0) ∧ Below w.heap.size w w' := jframe kFr w
end Go.Proofs.Ytjhopgmionpkoaa
namespace Go.Proofs.Ytjhopgmionpkoaa
set_option maxRecDepth 20000
open Go.RowKit Mem

abbrev InsArg (w : World) (A : Option Addr) (c : Nat) (l : List Ia.Ins) : Prop := ISrc w A c l ∧ (∀ k (h : k < l.length), InsOk (l[k]'h)) ∧ l.length ≤ 8796093022202
def Wider (f g : Ju.Fr) : Prop := f.sl ≤ g.sl ∧ f.ol ≤ g.ol ∧ f.nw ≤ g.nw ∧ f.is ≤ g.is ∧ f.os ≤ g.os
theorem okFr_ge {f : Ju.Fr} (h : Ju.okFr f = true) : 0 ≤ f.sl ∧ 0 ≤ f.ol ∧ 0 ≤ f.nw ∧ 0 ≤ f.is ∧ 0 ≤ f.os := by
  unfold Ju.okFr at h
  simp only [Bool.and_eq_true, decide_eq_true_eq] at h
  omega
theorem room_wider {f g : Ju.Fr} (h : Ju.okFr f = true) (hw : Wider f g) (op n : Int) (hr : ¬ (0 ≤ Ju.room op f ∧ Ju.room op f ≤ n)) : ¬ (0 ≤ Ju.room op g ∧ Ju.room op g ≤ n) := by
  have h0 := okFr_ge h
  obtain ⟨w1, w2, w3, w4, w5⟩ := hw
  unfold Ju.room at *
  repeat' split at hr
  all_goals (repeat' split)
  all_goals (try omega)
theorem step_wider {f g : Ju.Fr} (h : Ju.okFr f = true) (hw : Wider f g) {n k : Nat} {i : Ia.Ins} {s : Ju.St} (h0 : (Ju.step f n i k s).1 = 0) : Ju.step g n i k s = Ju.step f n i k s := by
  by_cases hr : Ia.right i = 0
  · by_cases hm : 0 ≤ Ju.room i.op f ∧ Ju.room i.op f ≤ i.n
    · rw [Ju.step_room hr hm] at h0; simp at h0
    · have hm2 := room_wider h hw _ _ hm
      unfold Ju.step
      simp only [hr, ne_eq, not_true_eq_false, if_false, if_neg hm, if_neg hm2]
  · rw [Ju.step_right hr, Ju.step_right hr]
theorem run_wider {f g : Ju.Fr} (h : Ju.okFr f = true) (hw : Wider f g) {n : Nat} : ∀ (l : List Ia.Ins) (k : Nat) (s : Ju.St) (top : Int), (Ju.run f n l k s top).er = 0 → Ju.run g n l k s top = Ju.run f n l k s top
  | [], _, _, _, _ => rfl
  | i :: r, k, s, top, h0 => by
    unfold Ju.run at h0 ⊢
    by_cases hs : (Ju.step f n i k s).1 = 0
    · have hst := step_wider h hw hs
      rw [if_neg (fun e => e hs)] at h0
      rw [hst, if_neg (fun e => e hs), if_neg (fun e => e hs)]
      exact run_wider h hw r _ _ _ h0
    · rw [if_pos hs] at h0
      exact absurd h0 hs
theorem check_ok {f : Ju.Fr} {l : List Ia.Ins} (h : (Ju.check f l).er = 0) : Ju.okFr f = true ∧ ¬ 600 < l.length := by
  unfold Ju.check at h
  by_cases h1 : Ju.okFr f = true
  · refine ⟨h1, fun h2 => ?_⟩
    rw [if_neg (by rw [h1]; decide), if_pos h2] at h
    simp at h
  · rw [if_pos (by simpa using h1)] at h
    simp at h
theorem check_wider {f g : Ju.Fr} {l : List Ia.Ins} (h : (Ju.check f l).er = 0) (hw : Wider f g) (hg : Ju.okFr g = true) : Ju.check g l = Ju.check f l := by
  obtain ⟨h1, h2⟩ := check_ok h
  rw [check_run h1 h2] at h ⊢
  rw [check_run hg h2, run_wider h1 hw l 0 _ _ h]
theorem check_bad {g : Ju.Fr} (l : List Ia.Ins) (hg : Ju.okFr g = false) : (Ju.check g l).er = 1 := by
  unfold Ju.check; rw [if_pos hg]
end Go.Proofs.Ytjhopgmionpkoaa
namespace Go.Proofs.Ytjhopgmionpkoaa
set_option maxRecDepth 20000
open Go.RowKit Mem

theorem step_more {f : Ju.Fr} {n N k : Nat} (hN : n ≤ N) {i : Ia.Ins} {s : Ju.St} (h0 : (Ju.step f n i k s).1 = 0) : Ju.step f N i k s = Ju.step f n i k s := by
  by_cases hr : Ia.right i = 0
  · by_cases hm : 0 ≤ Ju.room i.op f ∧ Ju.room i.op f ≤ i.n
    · rw [Ju.step_room hr hm] at h0; simp at h0
    · cases hs : s k with
      | none => rw [Ju.step_reach hr hm hs, Ju.step_reach hr hm hs]
      | some v =>
        obtain ⟨d0, f0⟩ := v
        by_cases h4 : d0 < Ju.takes i.op ∨ 16 < d0 - Ju.takes i.op + Ju.gives i.op
        · rw [Ju.step_stack hr hm hs h4, Ju.step_stack hr hm hs h4]
        · by_cases h5 : Ju.jumps i.op = true ∧ n < Ju.tgt k i
          · rw [Ju.step_jump hr hm hs h4 h5] at h0; simp at h0
          · have h6 : ¬ (Ju.jumps i.op = true ∧ N < Ju.tgt k i) := fun h => h5 ⟨h.1, by have := h.2; omega⟩
            unfold Ju.step
            simp only [hr, ne_eq, not_true_eq_false, if_false, if_neg hm, hs, if_neg h4, if_neg h5, if_neg h6]
  · rw [Ju.step_right hr, Ju.step_right hr]
/-- what a step without fault is made of -/
theorem step_parts {f : Ju.Fr} {n k : Nat} {i : Ia.Ins} {s S : Ju.St} {D : Int} (h : Ju.step f n i k s = (0, S, D)) :
    Ia.right i = 0 ∧ ¬ (0 ≤ Ju.room i.op f ∧ Ju.room i.op f ≤ i.n) ∧ ∃ d0 f0 s1, s k = some (d0, f0) ∧ ¬ (d0 < Ju.takes i.op ∨ 16 < d0 - Ju.takes i.op + Ju.gives i.op) ∧ ¬ (Ju.jumps i.op = true ∧ n < Ju.tgt k i) ∧
      (if i.op = 10 then some s else Ju.come s (k + 1) (d0 - Ju.takes i.op + Ju.gives i.op) (f0 + 1)) = some s1 ∧
      (if Ju.jumps i.op = true then Ju.come s1 (Ju.tgt k i) (d0 - Ju.takes i.op + Ju.gives i.op) (f0 + 1) else some s1) = some S ∧ D = d0 - Ju.takes i.op + Ju.gives i.op := by
  by_cases hr : Ia.right i = 0
  · by_cases hm : 0 ≤ Ju.room i.op f ∧ Ju.room i.op f ≤ i.n
    · rw [Ju.step_room hr hm] at h; simp at h
    · cases hs : s k with
      | none => rw [Ju.step_reach hr hm hs] at h; simp at h
      | some v =>
        obtain ⟨d0, f0⟩ := v
        by_cases h4 : d0 < Ju.takes i.op ∨ 16 < d0 - Ju.takes i.op + Ju.gives i.op
        · rw [Ju.step_stack hr hm hs h4] at h; simp at h
        · by_cases h5 : Ju.jumps i.op = true ∧ n < Ju.tgt k i
          · rw [Ju.step_jump hr hm hs h4 h5] at h; simp at h
          · cases h6 : (if i.op = 10 then some s else Ju.come s (k + 1) (d0 - Ju.takes i.op + Ju.gives i.op) (f0 + 1)) with
            | none => rw [Ju.step_c1 hr hm hs h4 h5 h6] at h; simp at h
            | some s1 =>
              cases h7 : (if Ju.jumps i.op = true then Ju.come s1 (Ju.tgt k i) (d0 - Ju.takes i.op + Ju.gives i.op) (f0 + 1) else some s1) with
              | none => rw [Ju.step_c2 hr hm hs h4 h5 h6 h7] at h; simp at h
              | some s2 =>
                rw [Ju.step_ok hr hm hs h4 h5 h6 h7] at h
                simp only [Prod.mk.injEq, true_and] at h
                obtain ⟨rfl, rfl⟩ := h
                exact ⟨hr, hm, d0, f0, s1, rfl, h4, h5, h6, h7, rfl⟩
  · rw [Ju.step_right hr] at h; simp only [Prod.mk.injEq] at h; exact absurd h.1 hr
theorem come_far {s S : Ju.St} {t : Nat} {d f : Int} (h : Ju.come s t d f = some S) (j : Nat) (hj : j ≠ t) : S j = s j := by
  unfold Ju.come at h
  split at h
  · injection h with h; subst h; unfold Ju.upd; rw [if_neg hj]
  · split at h
    · injection h with h; subst h; unfold Ju.upd; rw [if_neg hj]
    · cases h
theorem step_beyond {f : Ju.Fr} {n k : Nat} {i : Ia.Ins} {s S : Ju.St} {D : Int} (h : Ju.step f n i k s = (0, S, D)) (hk : k < n) (hb : ∀ j, n < j → s j = none) : ∀ j, n < j → S j = none := by
  obtain ⟨hr, hm, d0, f0, s1, hs, h4, h5, h6, h7, rfl⟩ := step_parts h
  intro j hj
  have e1 : s1 j = none := by
    split at h6
    · injection h6 with h6; subst h6; exact hb j hj
    · rw [come_far h6 j (by omega)]; exact hb j hj
  split at h7
  · rename_i hjj
    rw [come_far h7 j (fun e => h5 ⟨hjj, by omega⟩)]; exact e1
  · injection h7 with h7; subst h7; exact e1
theorem run_append {f : Ju.Fr} {n N : Nat} (hN : n ≤ N) : ∀ (l : List Ia.Ins) (k : Nat) (s : Ju.St) (top : Int), k + l.length = n → StOk n k s → (∀ j, n < j → s j = none) → (Ju.run f n l k s top).er = 0 →
    ∃ S T, S n = some (0, (Ju.run f n l k s top).fu) ∧ T = (Ju.run f n l k s top).dp ∧ (∀ j, n < j → S j = none) ∧ ∀ r, Ju.run f N (l ++ r) k s top = Ju.run f N r n S T
  | [], k, s, top, hk, hst, hb, he => by
    obtain rfl : k = n := by simpa using hk
    obtain ⟨v, hv⟩ := Option.isSome_iff_exists.1 (hst.2 rfl)
    obtain ⟨d, fu⟩ := v
    unfold Ju.run at he ⊢
    rw [hv] at he ⊢
    dsimp only at he ⊢
    by_cases hd : d = 0
    · subst hd
      rw [if_pos rfl]
      exact ⟨s, top, hv, rfl, hb, fun r => rfl⟩
    · rw [if_neg hd] at he; simp at he
  | i :: l, k, s, top, hk, hst, hb, he => by
    have hk' : k < n := by simp at hk; omega
    rw [Ju.run] at he ⊢
    by_cases hs : (Ju.step f n i k s).1 = 0
    · rw [if_neg (fun e => e hs)] at he ⊢
      have hst' : Ju.step f n i k s = (0, (Ju.step f n i k s).2.1, (Ju.step f n i k s).2.2) := by rw [← hs]
      have A := step_st hst' hst hk'
      have C := step_beyond hst' hk' hb
      obtain ⟨S, T, h1, h2, h3, h4⟩ := run_append hN l (k + 1) _ (max top (Ju.step f n i k s).2.2) (by simp at hk; omega) A.1 C he
      refine ⟨S, T, h1, h2, h3, fun r => ?_⟩
      rw [List.cons_append, Ju.run, step_more hN hs, if_neg (fun e => e hs)]
      exact h4 r
    · rw [if_pos hs] at he; exact absurd he hs
def Shift (n : Nat) (fx : Int) (s S : Ju.St) : Prop := ∀ j, S (n + j) = (s j).map fun v => (v.1, v.2 + fx)
theorem come_shift {n t : Nat} {fx d f : Int} {s S r : Ju.St} (hR : Shift n fx s S) (h : Ju.come s t d f = some r) : ∃ R, Ju.come S (n + t) d (f + fx) = some R ∧ Shift n fx r R := by
  have hSt := hR t
  unfold Ju.come at h ⊢
  cases hs : s t with
  | none =>
    rw [hs] at h hSt
    injection h with h
    subst h
    rw [hSt]
    refine ⟨_, rfl, fun j => ?_⟩
    unfold Ju.upd
    by_cases hj : j = t
    · subst hj; simp
    · rw [if_neg (by omega), if_neg hj]; exact hR j
  | some v =>
    obtain ⟨d', f'⟩ := v
    rw [hs] at h hSt
    rw [hSt]
    dsimp only [Option.map_some] at h ⊢
    by_cases hd : d' = d
    · subst hd
      rw [if_pos rfl] at h ⊢
      injection h with h
      subst h
      refine ⟨_, rfl, fun j => ?_⟩
      unfold Ju.upd
      by_cases hj : j = t
      · subst hj
        have e : max (f' + fx) (f + fx) = max f' f + fx := by rw [Int.max_def, Int.max_def]; split <;> split <;> omega
        simp [e]
      · rw [if_neg (by omega), if_neg hj]; exact hR j
    · rw [if_neg hd] at h; cases h
theorem step_shift {f : Ju.Fr} {n m k : Nat} {fx : Int} {i : Ia.Ins} {s S r : Ju.St} {D : Int} (hR : Shift n fx s S) (h : Ju.step f m i k s = (0, r, D)) : ∃ R, Ju.step f (n + m) i (n + k) S = (0, R, D) ∧ Shift n fx r R := by
  obtain ⟨hr, hm, d0, f0, s1, hs, h4, h5, h6, h7, rfl⟩ := step_parts h
  have hSk : S (n + k) = some (d0, f0 + fx) := by rw [hR k, hs]; rfl
  have hto : Ju.tgt (n + k) i = n + Ju.tgt k i := by unfold Ju.tgt; omega
  have h5' : ¬ (Ju.jumps i.op = true ∧ n + m < Ju.tgt (n + k) i) := fun hh => h5 ⟨hh.1, by have := hh.2; omega⟩
  have ef : f0 + fx + 1 = f0 + 1 + fx := by omega
  obtain ⟨S1, hS1, hR1⟩ : ∃ S1, (if i.op = 10 then some S else Ju.come S (n + k + 1) (d0 - Ju.takes i.op + Ju.gives i.op) (f0 + fx + 1)) = some S1 ∧ Shift n fx s1 S1 := by
    by_cases h10 : i.op = 10
    · rw [if_pos h10] at h6 ⊢
      injection h6 with h6
      subst h6
      exact ⟨S, rfl, hR⟩
    · rw [if_neg h10] at h6 ⊢
      rw [ef]
      exact come_shift hR h6
  obtain ⟨S2, hS2, hR2⟩ : ∃ S2, (if Ju.jumps i.op = true then Ju.come S1 (Ju.tgt (n + k) i) (d0 - Ju.takes i.op + Ju.gives i.op) (f0 + fx + 1) else some S1) = some S2 ∧ Shift n fx r S2 := by
    by_cases hj : Ju.jumps i.op = true
    · rw [if_pos hj] at h7 ⊢
      rw [ef, hto]
      exact come_shift hR1 h7
    · rw [if_neg hj] at h7 ⊢
      injection h7 with h7
      subst h7
      exact ⟨S1, rfl, hR1⟩
  exact ⟨S2, Ju.step_ok hr hm hSk h4 h5' hS1 hS2, hR2⟩
theorem run_shift {f : Ju.Fr} {n m : Nat} {fx dx : Int} : ∀ (l : List Ia.Ins) (k : Nat) (s S : Ju.St) (top : Int), k + l.length = m → StOk m k s → Shift n fx s S → (Ju.run f m l k s top).er = 0 →
    Ju.run f (n + m) l (n + k) S (max dx top) = ⟨max dx (Ju.run f m l k s top).dp, fx + (Ju.run f m l k s top).fu, 0, 0⟩
  | [], k, s, S, top, hk, hst, hR, he => by
    obtain rfl : k = m := by simpa using hk
    obtain ⟨v, hv⟩ := Option.isSome_iff_exists.1 (hst.2 rfl)
    obtain ⟨d, fu⟩ := v
    have hSk : S (n + k) = some (d, fu + fx) := by rw [hR k, hv]; rfl
    unfold Ju.run at he ⊢
    rw [hv] at he
    rw [hv, hSk]
    dsimp only at he ⊢
    by_cases hd : d = 0
    · subst hd
      rw [if_pos rfl, if_pos rfl, Int.add_comm fu fx]
    · rw [if_neg hd] at he; simp at he
  | i :: l, k, s, S, top, hk, hst, hR, he => by
    rw [Ju.run] at he
    by_cases hs : (Ju.step f m i k s).1 = 0
    · rw [if_neg (fun e => e hs)] at he
      have hst' : Ju.step f m i k s = (0, (Ju.step f m i k s).2.1, (Ju.step f m i k s).2.2) := by rw [← hs]
      have A := step_st hst' hst (by simp at hk; omega)
      obtain ⟨R, hR1, hR2⟩ := step_shift hR hst'
      have ih := run_shift (dx := dx) l (k + 1) _ R (max top (Ju.step f m i k s).2.2) (by simp at hk; omega) A.1 hR2 he
      rw [Ju.run, hR1, if_neg (fun e => e rfl)]
      dsimp only
      rw [Int.max_assoc, Nat.add_assoc, ih]
      rw [Ju.run, if_neg (fun e => e hs)]
    · rw [if_pos hs] at he; exact absurd he hs
theorem run_top {f : Ju.Fr} {n : Nat} : ∀ (l : List Ia.Ins) (k : Nat) (s : Ju.St) (top : Int), k + l.length = n → StOk n k s → 0 ≤ top → (Ju.run f n l k s top).er = 0 → 0 ≤ (Ju.run f n l k s top).dp ∧ (Ju.run f n l k s top).at_ = 0
  | [], k, s, top, hk, hst, h0, he => by
    obtain rfl : k = n := by simpa using hk
    obtain ⟨v, hv⟩ := Option.isSome_iff_exists.1 (hst.2 rfl)
    obtain ⟨d, fu⟩ := v
    unfold Ju.run at he ⊢
    rw [hv] at he ⊢
    dsimp only at he ⊢
    by_cases hd : d = 0
    · subst hd
      rw [if_pos rfl]
      exact ⟨h0, rfl⟩
    · rw [if_neg hd] at he; simp at he
  | i :: l, k, s, top, hk, hst, h0, he => by
    rw [Ju.run] at he ⊢
    by_cases hs : (Ju.step f n i k s).1 = 0
    · rw [if_neg (fun e => e hs)] at he ⊢
      have hst' : Ju.step f n i k s = (0, (Ju.step f n i k s).2.1, (Ju.step f n i k s).2.2) := by rw [← hs]
      have A := step_st hst' hst (by simp at hk; omega)
      exact run_top l (k + 1) _ _ (by simp at hk; omega) A.1 (by have := Int.le_max_left top (Ju.step f n i k s).2.2; omega) he
    · rw [if_pos hs] at he; exact absurd he hs
theorem run_bound {f : Ju.Fr} {n : Nat} : ∀ (l : List Ia.Ins) (k : Nat) (s : Ju.St) (top : Int), k + l.length = n → StOk n k s → 0 ≤ top ∧ top ≤ 16 → (Ju.run f n l k s top).er = 0 → 0 ≤ (Ju.run f n l k s top).dp ∧ (Ju.run f n l k s top).dp ≤ 16 ∧ 0 ≤ (Ju.run f n l k s top).fu ∧ (Ju.run f n l k s top).fu ≤ n
  | [], k, s, top, hk, hst, h0, he => by
    obtain rfl : k = n := by simpa using hk
    obtain ⟨v, hv⟩ := Option.isSome_iff_exists.1 (hst.2 rfl)
    obtain ⟨d, fu⟩ := v
    have hb := hst.1 _ _ _ hv
    unfold Ju.run at he ⊢
    rw [hv] at he ⊢
    dsimp only at he ⊢
    by_cases hd : d = 0
    · subst hd
      rw [if_pos rfl]
      exact ⟨h0.1, h0.2, hb.2.2.1, hb.2.2.2⟩
    · rw [if_neg hd] at he; simp at he
  | i :: l, k, s, top, hk, hst, h0, he => by
    rw [Ju.run] at he ⊢
    by_cases hs : (Ju.step f n i k s).1 = 0
    · rw [if_neg (fun e => e hs)] at he ⊢
      have hst' : Ju.step f n i k s = (0, (Ju.step f n i k s).2.1, (Ju.step f n i k s).2.2) := by rw [← hs]
      have A := step_st hst' hst (by simp at hk; omega)
      exact run_bound l (k + 1) _ _ (by simp at hk; omega) A.1 (by have := Int.max_def top (Ju.step f n i k s).2.2; split at this <;> omega) he
    · rw [if_pos hs] at he; exact absurd he hs
theorem check_bound {f : Ju.Fr} {l : List Ia.Ins} (h : (Ju.check f l).er = 0) : 0 ≤ (Ju.check f l).dp ∧ (Ju.check f l).dp ≤ 16 ∧ 0 ≤ (Ju.check f l).fu ∧ (Ju.check f l).fu ≤ l.length := by
  obtain ⟨h1, h2⟩ := check_ok h
  rw [check_run h1 h2] at h ⊢
  exact run_bound l 0 Ju.first 0 (by omega) (st_first _) (by omega) h
/-- two codes that are accepted are accepted one behind the other -/
theorem check_join {f : Ju.Fr} {a b : List Ia.Ins} (ha : (Ju.check f a).er = 0) (hb : (Ju.check f b).er = 0) (hl : a.length ≤ 300) (hl2 : b.length ≤ 300) :
    Ju.check f (a ++ b) = ⟨max (Ju.check f a).dp (Ju.check f b).dp, (Ju.check f a).fu + (Ju.check f b).fu, 0, 0⟩ := by
  obtain ⟨h1, h2⟩ := check_ok ha
  obtain ⟨_, h3⟩ := check_ok hb
  have e1 := check_run h1 h2
  have e2 := check_run h1 h3
  have e3 := check_run (l := a ++ b) h1 (by rw [List.length_append]; omega)
  rw [e1] at ha ⊢
  rw [e2] at hb ⊢
  rw [e3, List.length_append]
  have hfb : ∀ j, a.length < j → Ju.first j = none := fun j hj => by unfold Ju.first; rw [if_neg (by omega)]
  obtain ⟨S, T, q1, q2, q3, q4⟩ := run_append (N := a.length + b.length) (by omega) a 0 Ju.first 0 (by omega) (st_first _) hfb ha
  have hR : Shift a.length (Ju.run f a.length a 0 Ju.first 0).fu Ju.first S := by
    intro j
    by_cases hj : j = 0
    · subst hj; rw [Nat.add_zero, q1]; simp [Ju.first]
    · rw [q3 _ (by omega)]; unfold Ju.first; rw [if_neg hj]; rfl
  have hT := run_top a 0 Ju.first 0 (by omega) (st_first _) (Int.le_refl _) ha
  have := run_shift (f := f) (n := a.length) (m := b.length) (dx := T) b 0 Ju.first S 0 (by omega) (st_first _) hR hb
  rw [q4 b]
  have e0 : max T 0 = T := Int.max_eq_left (by rw [q2]; exact hT.1)
  rw [e0, Nat.add_zero] at this
  rw [this, q2]
end Go.Proofs.Ytjhopgmionpkoaa
namespace Go.Proofs.Ytjhopgmionpkoaa
set_option maxRecDepth 20000
open Go.RowKit Mem

/-- the ways from the first k instructions: to each place a way leads from an elder one, and with just one step more -/
structure Flow (f : Ju.Fr) (l : List Ia.Ins) (k : Nat) (s : Ju.St) (top : Int) : Prop where
  zero : s 0 = some (0, 0)
  edge : ∀ j (_ : j < k) (hl : j < l.length), ∃ d0 f0, s j = some (d0, f0) ∧ Ia.right (l[j]'hl) = 0 ∧ ¬ (0 ≤ Ju.room (l[j]'hl).op f ∧ Ju.room (l[j]'hl).op f ≤ (l[j]'hl).n) ∧ Ju.takes (l[j]'hl).op ≤ d0 ∧
    d0 - Ju.takes (l[j]'hl).op + Ju.gives (l[j]'hl).op ≤ top ∧ (Ju.jumps (l[j]'hl).op = true → Ju.tgt j (l[j]'hl) ≤ l.length) ∧
    ((l[j]'hl).op ≠ 10 → ∃ f1, s (j + 1) = some (d0 - Ju.takes (l[j]'hl).op + Ju.gives (l[j]'hl).op, f1) ∧ f0 + 1 ≤ f1) ∧
    (Ju.jumps (l[j]'hl).op = true → ∃ f1, s (Ju.tgt j (l[j]'hl)) = some (d0 - Ju.takes (l[j]'hl).op + Ju.gives (l[j]'hl).op, f1) ∧ f0 + 1 ≤ f1)
  pred : ∀ t d f', s t = some (d, f') → (t = 0 ∧ f' = 0) ∨ ∃ j d0 f0, j < k ∧ ∃ hl : j < l.length, s j = some (d0, f0) ∧ f' = f0 + 1 ∧ (((l[j]'hl).op ≠ 10 ∧ t = j + 1) ∨ (Ju.jumps (l[j]'hl).op = true ∧ t = Ju.tgt j (l[j]'hl)))
theorem come_mono {s S : Ju.St} {t : Nat} {d f : Int} (h : Ju.come s t d f = some S) :
    (∀ j d' f', s j = some (d', f') → ∃ f1, S j = some (d', f1) ∧ f' ≤ f1) ∧ (∃ f1, S t = some (d, f1) ∧ f ≤ f1) ∧ (∀ j d' f', S j = some (d', f') → s j = some (d', f') ∨ (j = t ∧ f' = f)) := by
  unfold Ju.come at h
  cases hs : s t with
  | none =>
    rw [hs] at h
    injection h with h
    subst h
    refine ⟨fun j d' f' hj => ⟨f', ?_, Int.le_refl _⟩, ⟨f, by simp [Ju.upd], Int.le_refl _⟩, fun j d' f' hj => ?_⟩
    · unfold Ju.upd
      rw [if_neg (fun e => by subst e; rw [hs] at hj; cases hj)]; exact hj
    · unfold Ju.upd at hj
      split at hj
      · rename_i e; injection hj with hj; injection hj with h1 h2; exact .inr ⟨e, h2.symm⟩
      · exact .inl hj
  | some v =>
    obtain ⟨d', f'⟩ := v
    rw [hs] at h
    dsimp only at h
    split at h
    · rename_i hd
      subst hd
      injection h with h
      subst h
      have hm := Int.max_def f' f
      refine ⟨fun j d2 f2 hj => ?_, ⟨max f' f, by simp [Ju.upd], Int.le_max_right _ _⟩, fun j d2 f2 hj => ?_⟩
      · unfold Ju.upd
        split
        · rename_i e
          subst e
          rw [hs] at hj
          injection hj with hj; injection hj with h1 h2
          subst h1 h2
          exact ⟨_, rfl, Int.le_max_left _ _⟩
        · exact ⟨f2, hj, Int.le_refl _⟩
      · unfold Ju.upd at hj
        split at hj
        · rename_i e
          injection hj with hj; injection hj with h1 h2
          subst e
          split at hm
          · exact .inr ⟨rfl, by omega⟩
          · refine .inl ?_
            rw [hs, ← h1, ← h2, hm]
        · exact .inl hj
    · cases h
theorem Flow.step {f : Ju.Fr} {l : List Ia.Ins} {k : Nat} {s S : Ju.St} {top D : Int} (hF : Flow f l k s top) (hk : k < l.length) (h : Ju.step f l.length (l[k]'hk) k s = (0, S, D)) (hr0 : Ju.jumps (l[k]'hk).op = true → 0 ≤ (l[k]'hk).n) :
    Flow f l (k + 1) S (max top D) := by
  obtain ⟨hr, hm, d0, f0, s1, hs, h4, h5, h6, h7, rfl⟩ := step_parts h
  -- the first of the two
  have A : (∀ j d' f', s j = some (d', f') → ∃ f1, s1 j = some (d', f1) ∧ f' ≤ f1) ∧ ((l[k]'hk).op ≠ 10 → ∃ f1, s1 (k + 1) = some (d0 - Ju.takes (l[k]'hk).op + Ju.gives (l[k]'hk).op, f1) ∧ f0 + 1 ≤ f1) ∧
      (∀ j d' f', s1 j = some (d', f') → s j = some (d', f') ∨ ((l[k]'hk).op ≠ 10 ∧ j = k + 1 ∧ f' = f0 + 1)) ∧ (∀ j, j ≤ k → s1 j = s j) := by
    by_cases h10 : (l[k]'hk).op = 10
    · rw [if_pos h10] at h6
      injection h6 with h6
      subst h6
      exact ⟨fun j d' f' hj => ⟨f', hj, Int.le_refl _⟩, fun e => absurd h10 e, fun j d' f' hj => .inl hj, fun _ _ => rfl⟩
    · rw [if_neg h10] at h6
      obtain ⟨c1, c2, c3⟩ := come_mono h6
      exact ⟨c1, fun _ => c2, fun j d' f' hj => (c3 j d' f' hj).imp id (fun e => ⟨h10, e.1, e.2⟩), fun j hj => come_far h6 j (by omega)⟩
  have C : (∀ j d' f', s1 j = some (d', f') → ∃ f1, S j = some (d', f1) ∧ f' ≤ f1) ∧ (Ju.jumps (l[k]'hk).op = true → ∃ f1, S (Ju.tgt k (l[k]'hk)) = some (d0 - Ju.takes (l[k]'hk).op + Ju.gives (l[k]'hk).op, f1) ∧ f0 + 1 ≤ f1) ∧
      (∀ j d' f', S j = some (d', f') → s1 j = some (d', f') ∨ (Ju.jumps (l[k]'hk).op = true ∧ j = Ju.tgt k (l[k]'hk) ∧ f' = f0 + 1)) ∧ (∀ j, j ≤ k → S j = s1 j) := by
    by_cases hj : Ju.jumps (l[k]'hk).op = true
    · rw [if_pos hj] at h7
      obtain ⟨c1, c2, c3⟩ := come_mono h7
      exact ⟨c1, fun _ => c2, fun j d' f' hjj => (c3 j d' f' hjj).imp id (fun e => ⟨hj, e.1, e.2⟩), fun j hjk => come_far h7 j (by unfold Ju.tgt; omega)⟩
    · rw [if_neg hj] at h7
      injection h7 with h7
      subst h7
      exact ⟨fun j d' f' hj => ⟨f', hj, Int.le_refl _⟩, fun e => absurd e hj, fun j d' f' hj => .inl hj, fun _ _ => rfl⟩
  have low : ∀ j, j ≤ k → S j = s j := fun j hj => (C.2.2.2 j hj).trans (A.2.2.2 j hj)
  have up : ∀ j d' f', s j = some (d', f') → ∃ f1, S j = some (d', f1) ∧ f' ≤ f1 := fun j d' f' hj => by
    obtain ⟨f1, e1, g1⟩ := A.1 j d' f' hj
    obtain ⟨f2, e2, g2⟩ := C.1 j d' f1 e1
    exact ⟨f2, e2, by omega⟩
  have hmx1 := Int.le_max_left top (d0 - Ju.takes (l[k]'hk).op + Ju.gives (l[k]'hk).op)
  have hmx2 := Int.le_max_right top (d0 - Ju.takes (l[k]'hk).op + Ju.gives (l[k]'hk).op)
  refine ⟨by rw [low 0 (by omega)]; exact hF.zero, fun j hj hl => ?_, fun t d f' ht => ?_⟩
  · by_cases hjk : j = k
    · subst hjk
      refine ⟨d0, f0, by rw [low j (Nat.le_refl _)]; exact hs, hr, hm, by omega, hmx2, fun hjj => ?_, fun h10 => ?_, C.2.1⟩
      · have h8 : ¬ l.length < Ju.tgt j (l[j]'hl) := fun hh => h5 ⟨hjj, hh⟩
        omega
      · obtain ⟨f1, e1, g1⟩ := A.2.1 h10
        obtain ⟨f2, e2, g2⟩ := C.1 _ _ _ e1
        exact ⟨f2, e2, by omega⟩
    · obtain ⟨e0, p0, q1, q2, q3, q4, q5, q6, q7, q8⟩ := hF.edge j (by omega) hl
      refine ⟨e0, p0, by rw [low j (by omega)]; exact q1, q2, q3, q4, by omega, q6, fun h10 => ?_, fun hjj => ?_⟩
      · obtain ⟨f1, e1, g1⟩ := q7 h10
        obtain ⟨f2, e2, g2⟩ := up _ _ _ e1
        exact ⟨f2, e2, by omega⟩
      · obtain ⟨f1, e1, g1⟩ := q8 hjj
        obtain ⟨f2, e2, g2⟩ := up _ _ _ e1
        exact ⟨f2, e2, by omega⟩
  · rcases C.2.2.1 t d f' ht with h1 | ⟨hjj, et, ef⟩
    · rcases A.2.2.1 t d f' h1 with h2 | ⟨h10, et, ef⟩
      · rcases hF.pred t d f' h2 with h3 | ⟨j, e0, p0, hj, hl, g1, g2, g3⟩
        · exact .inl h3
        · exact .inr ⟨j, e0, p0, by omega, hl, by rw [low j (by omega)]; exact g1, g2, g3⟩
      · exact .inr ⟨k, d0, f0, by omega, hk, by rw [low k (Nat.le_refl _)]; exact hs, ef, .inl ⟨h10, et⟩⟩
    · exact .inr ⟨k, d0, f0, by omega, hk, by rw [low k (Nat.le_refl _)]; exact hs, ef, .inr ⟨hjj, et⟩⟩
theorem flow_first (f : Ju.Fr) (l : List Ia.Ins) : Flow f l 0 Ju.first 0 := by
  refine ⟨rfl, fun j hj => absurd hj (Nat.not_lt_zero _), fun t d f' h => ?_⟩
  unfold Ju.first at h
  split at h
  · rename_i e; injection h with h; injection h with h1 h2; exact .inl ⟨e, h2.symm⟩
  · cases h
theorem run_flow {f : Ju.Fr} {l : List Ia.Ins} : ∀ (m k : Nat) (s : Ju.St) (top : Int), k + m = l.length → StOk l.length k s → Flow f l k s top → (Ju.run f l.length (l.drop k) k s top).er = 0 →
    ∃ S, Flow f l l.length S (Ju.run f l.length (l.drop k) k s top).dp ∧ S l.length = some (0, (Ju.run f l.length (l.drop k) k s top).fu) ∧ StOk l.length l.length S
  | 0, k, s, top, hk, hst, hF, he => by
    obtain rfl : k = l.length := by omega
    obtain ⟨v, hv⟩ := Option.isSome_iff_exists.1 (hst.2 rfl)
    obtain ⟨d, fu⟩ := v
    rw [List.drop_length] at he ⊢
    unfold Ju.run at he ⊢
    rw [hv] at he ⊢
    dsimp only at he ⊢
    by_cases hd : d = 0
    · subst hd
      rw [if_pos rfl]
      exact ⟨s, hF, hv, hst⟩
    · rw [if_neg hd] at he; simp at he
  | m + 1, k, s, top, hk, hst, hF, he => by
    have hk' : k < l.length := by omega
    have hst0 : Ju.step f l.length (l[k]'hk') k s = ((Ju.step f l.length (l[k]'hk') k s).1, (Ju.step f l.length (l[k]'hk') k s).2.1, (Ju.step f l.length (l[k]'hk') k s).2.2) := rfl
    rw [run_step hk' hst0] at he ⊢
    by_cases hs : (Ju.step f l.length (l[k]'hk') k s).1 = 0
    · rw [if_neg (fun e => e hs)] at he ⊢
      rw [hs] at hst0
      have A := step_st hst0 hst hk'
      have hr := (step_parts hst0).1
      exact run_flow m (k + 1) _ _ (by omega) A.1 (hF.step hk' hst0 (fun hj => (right_n hr hj).1)) he
    · rw [if_pos hs] at he; exact absurd he hs
theorem check_flow {f : Ju.Fr} {l : List Ia.Ins} (h : (Ju.check f l).er = 0) : ∃ S, Flow f l l.length S (Ju.check f l).dp ∧ S l.length = some (0, (Ju.check f l).fu) ∧ StOk l.length l.length S := by
  obtain ⟨h1, h2⟩ := check_ok h
  have e := check_run h1 h2
  have := run_flow (f := f) (l := l) l.length 0 Ju.first 0 (by omega) (st_first _) (flow_first f l) (by rw [List.drop_zero, ← e]; exact h)
  rw [List.drop_zero, ← e] at this
  exact this
theorem flow_le {f : Ju.Fr} {l : List Ia.Ins} {S : Ju.St} {top fu : Int} (hF : Flow f l l.length S top) (hn : S l.length = some (0, fu)) : ∀ (m k : Nat), k + m = l.length → ∀ d f', S k = some (d, f') → f' ≤ fu ∧ (k < l.length → f' + 1 ≤ fu)
  | 0, k, hk, d, f', hs => by
    obtain rfl : k = l.length := by omega
    rw [hn] at hs
    injection hs with hs; injection hs with h1 h2
    exact ⟨by omega, fun h => absurd h (Nat.lt_irrefl _)⟩
  | m + 1, k, hk, d, f', hs => by
    have hk' : k < l.length := by omega
    obtain ⟨e0, p0, q1, q2, q3, q4, q5, q6, q7, q8⟩ := hF.edge k hk' hk'
    rw [hs] at q1
    injection q1 with q1; injection q1 with q1a q1b
    subst q1a q1b
    have : ∃ k' f1 d1, k < k' ∧ k' ≤ l.length ∧ S k' = some (d1, f1) ∧ f' + 1 ≤ f1 := by
      by_cases h10 : (l[k]'hk').op = 10
      · have hj : Ju.jumps (l[k]'hk').op = true := by rw [h10]; rfl
        obtain ⟨f1, e1, g1⟩ := q8 hj
        exact ⟨_, f1, _, by unfold Ju.tgt; omega, q6 hj, e1, g1⟩
      · obtain ⟨f1, e1, g1⟩ := q7 h10
        exact ⟨k + 1, f1, _, by omega, by omega, e1, g1⟩
    obtain ⟨k', f1, d1, hlt, hle, e1, g1⟩ := this
    have ih := (flow_le_aux hF hn (l.length - k') k' (by omega) m (by omega) d1 f1 e1)
    exact ⟨by omega, fun _ => by omega⟩
where
  flow_le_aux {f : Ju.Fr} {l : List Ia.Ins} {S : Ju.St} {top fu : Int} (hF : Flow f l l.length S top) (hn : S l.length = some (0, fu)) (m' k' : Nat) (hk' : k' + m' = l.length) (m : Nat) (hm : m' ≤ m) (d f' : Int) (hs : S k' = some (d, f')) : f' ≤ fu :=
    (flow_le hF hn m' k' hk' d f' hs).1
/-- the most instructions from a place on, by those behind it -/
def bestOf (i : Ia.Ins) (j : Nat) (M : Nat → Int) : Int := if i.op = 10 then max 0 (M (Ju.tgt j i)) else if i.op = 11 then max (M (j + 1)) (M (Ju.tgt j i)) else M (j + 1)
structure MostOk (l : List Ia.Ins) (k : Nat) (M : Nat → Int) : Prop where
  stop : M l.length = 0
  rng : ∀ j, j ≤ l.length → 0 ≤ M j ∧ M j ≤ l.length
  at_ : ∀ j (_ : k ≤ j) (h : j < l.length), M j = bestOf (l[j]'h) j M + 1
  rest : ∀ j, k ≤ j → j ≤ l.length → M j ≤ l.length - j
theorem most_up {f : Ju.Fr} {l : List Ia.Ins} {S : Ju.St} {top fu : Int} {M : Nat → Int} (hF : Flow f l l.length S top) (hn : S l.length = some (0, fu)) (hM : MostOk l 0 M) : ∀ (m k : Nat), l.length - k ≤ m → k ≤ l.length → ∀ d f', S k = some (d, f') → f' + M k ≤ fu
  | 0, k, hk, hkl, d, f', hs => by
    obtain rfl : k = l.length := by omega
    rw [hn] at hs
    injection hs with hs; injection hs with h1 h2
    rw [hM.stop]; omega
  | m + 1, k, hk, hkl, d, f', hs => by
    by_cases hk' : k < l.length
    · obtain ⟨e0, p0, q1, q2, q3, q4, q5, q6, q7, q8⟩ := hF.edge k hk' hk'
      rw [hs] at q1
      injection q1 with q1; injection q1 with q1a q1b
      subst q1a q1b
      rw [hM.at_ k (Nat.zero_le _) hk']
      have via : ∀ k' f1 d1, k < k' → k' ≤ l.length → S k' = some (d1, f1) → f' + 1 ≤ f1 → f' + 1 + M k' ≤ fu := fun k' f1 d1 h1 h2 h3 h4 => by
        have := most_up hF hn hM m k' (by omega) h2 d1 f1 h3
        omega
      unfold bestOf
      by_cases h10 : (l[k]'hk').op = 10
      · rw [if_pos h10]
        have hj : Ju.jumps (l[k]'hk').op = true := by rw [h10]; rfl
        obtain ⟨f1, e1, g1⟩ := q8 hj
        have h0 := (hM.rng _ (q6 hj)).1
        rw [Int.max_eq_right h0]
        have := via _ f1 _ (by unfold Ju.tgt; omega) (q6 hj) e1 g1
        omega
      · rw [if_neg h10]
        obtain ⟨f1, e1, g1⟩ := q7 h10
        have A := via (k + 1) f1 _ (by omega) (by omega) e1 g1
        by_cases h11 : (l[k]'hk').op = 11
        · rw [if_pos h11]
          have hj : Ju.jumps (l[k]'hk').op = true := by rw [h11]; rfl
          obtain ⟨f2, e2, g2⟩ := q8 hj
          have C := via _ f2 _ (by unfold Ju.tgt; omega) (q6 hj) e2 g2
          have hm := Int.max_def (M (k + 1)) (M (Ju.tgt k (l[k]'hk')))
          split at hm <;> omega
        · rw [if_neg h11]; omega
    · obtain rfl : k = l.length := by omega
      rw [hn] at hs
      injection hs with hs; injection hs with h1 h2
      rw [hM.stop]; omega
theorem most_low {f : Ju.Fr} {l : List Ia.Ins} {S : Ju.St} {top : Int} {M : Nat → Int} (hF : Flow f l l.length S top) (hM : MostOk l 0 M) : ∀ (m t : Nat), t < m → t ≤ l.length → ∀ d f', S t = some (d, f') → f' + M t ≤ M 0
  | 0, t, hm, _, _, _, _ => absurd hm (Nat.not_lt_zero _)
  | m + 1, t, hm, htl, d, f', hs => by
    rcases hF.pred t d f' hs with ⟨rfl, rfl⟩ | ⟨j, d0, f0, hj, hl, g1, g2, g3⟩
    · omega
    · have hat := hM.at_ j (Nat.zero_le _) hl
      have hMt : M t ≤ bestOf (l[j]'hl) j M := by
        unfold bestOf
        rcases g3 with ⟨h10, rfl⟩ | ⟨hjj, rfl⟩
        · rw [if_neg h10]
          split
          · exact Int.le_max_left _ _
          · exact Int.le_refl _
        · unfold Ju.jumps at hjj
          simp only [Bool.or_eq_true, beq_iff_eq] at hjj
          rcases hjj with h | h
          · rw [if_pos h]; exact Int.le_max_right _ _
          · rw [if_neg (by rw [h]; decide), if_pos h]; exact Int.le_max_right _ _
      have hlt : j < t := by
        rcases g3 with ⟨_, rfl⟩ | ⟨_, rfl⟩
        · omega
        · unfold Ju.tgt; omega
      have := most_low hF hM m j (by omega) (by omega) d0 f0 g1
      omega
theorem most_fuel {f : Ju.Fr} {l : List Ia.Ins} {S : Ju.St} {top fu : Int} {M : Nat → Int} (hF : Flow f l l.length S top) (hn : S l.length = some (0, fu)) (hM : MostOk l 0 M) : M 0 = fu := by
  have h1 := most_up hF hn hM l.length 0 (by omega) (Nat.zero_le _) 0 0 hF.zero
  have h2 := most_low hF hM (l.length + 1) l.length (by omega) (Nat.le_refl _) 0 fu hn
  rw [hM.stop] at h2
  omega
def updM (M : Nat → Int) (k : Nat) (v : Int) : Nat → Int := fun j => if j = k then v else M j
theorem most_first (l : List Ia.Ins) : MostOk l l.length (fun _ => 0) :=
  ⟨rfl, fun j _ => by omega, fun j h1 h2 => absurd h2 (by omega), fun j h1 h2 => by omega⟩
theorem most_step {l : List Ia.Ins} {j : Nat} {M : Nat → Int} (hM : MostOk l (j + 1) M) (h : j < l.length) (hto : Ju.jumps (l[j]'h).op = true → Ju.tgt j (l[j]'h) ≤ l.length) : MostOk l j (updM M j (bestOf (l[j]'h) j M + 1)) := by
  have far : ∀ t, j < t → updM M j (bestOf (l[j]'h) j M + 1) t = M t := fun t ht => by unfold updM; rw [if_neg (by omega)]
  have hbest : 0 ≤ bestOf (l[j]'h) j M ∧ bestOf (l[j]'h) j M ≤ l.length - (j + 1 : Nat) := by
    have h1 := hM.rng (j + 1) (by omega)
    have h2 := hM.rest (j + 1) (Nat.le_refl _) (by omega)
    unfold bestOf
    split
    · rename_i h10
      have hj : Ju.jumps (l[j]'h).op = true := by rw [h10]; rfl
      have ht := hto hj
      have hlt : j + 1 ≤ Ju.tgt j (l[j]'h) := by unfold Ju.tgt; omega
      have h3 := hM.rng _ ht
      have h4 := hM.rest _ hlt ht
      rw [Int.max_eq_right h3.1]; omega
    · split
      · rename_i h11
        have hj : Ju.jumps (l[j]'h).op = true := by rw [h11]; rfl
        have ht := hto hj
        have hlt : j + 1 ≤ Ju.tgt j (l[j]'h) := by unfold Ju.tgt; omega
        have h3 := hM.rng _ ht
        have h4 := hM.rest _ hlt ht
        have hm := Int.max_def (M (j + 1)) (M (Ju.tgt j (l[j]'h)))
        split at hm <;> omega
      · omega
  have hbe : ∀ t (ht : t < l.length), j ≤ t → bestOf (l[t]'ht) t (updM M j (bestOf (l[j]'h) j M + 1)) = bestOf (l[t]'ht) t M := fun t ht htj => by
    have f1 := far (t + 1) (by omega)
    have f2 := far (Ju.tgt t (l[t]'ht)) (by unfold Ju.tgt; omega)
    generalize updM M j (bestOf (l[j]'h) j M + 1) = M2 at *
    unfold bestOf
    rw [f1, f2]
  refine ⟨by rw [far _ h]; exact hM.stop, fun t ht => ?_, fun t ht1 ht2 => ?_, fun t ht1 ht2 => ?_⟩
  · by_cases e : t = j
    · subst e; unfold updM; rw [if_pos rfl]; omega
    · unfold updM; rw [if_neg e]; exact hM.rng t ht
  · rw [hbe t ht2 ht1]
    by_cases e : t = j
    · subst e; unfold updM; rw [if_pos rfl]
    · rw [far t (by omega)]; exact hM.at_ t (by omega) ht2
  · by_cases e : t = j
    · subst e; unfold updM; rw [if_pos rfl]; omega
    · rw [far t (by omega)]; exact hM.rest t (by omega) ht2
end Go.Proofs.Ytjhopgmionpkoaa
namespace Go.Proofs.Ytjhopgmionpkoaa
set_option maxRecDepth 20000
open Go.RowKit Mem

def mCells (n : Nat) (M : Nat → Int) : Array Value := ((List.range (n + 1)).map fun j => .int .i64 (M j)).toArray
theorem mc_get (n : Nat) (M : Nat → Int) (j : Nat) (h : j ≤ n) : (mCells n M)[j]? = some (.int .i64 (M j)) := by
  unfold mCells
  rw [List.getElem?_toArray, List.getElem?_map, List.getElem?_range (by omega)]
  rfl
theorem mc_size (n : Nat) (M : Nat → Int) : (mCells n M).size = n + 1 := by simp [mCells]
theorem mc_ext (n : Nat) (M : Nat → Int) (xs : Array Value) (hs : xs.size = n + 1) (h : ∀ j, j ≤ n → xs[j]? = some (.int .i64 (M j))) : xs = mCells n M := by
  apply Array.ext
  · rw [hs, mc_size]
  · intro i h1 h2
    have h3 := h i (by omega)
    have h4 := mc_get n M i (by omega)
    rw [Array.getElem?_eq_getElem h1] at h3
    rw [Array.getElem?_eq_getElem h2] at h4
    exact Option.some.inj (h3.trans h4.symm)
theorem mc_set (n : Nat) (M : Nat → Int) (k : Nat) (h : k ≤ n) (v : Int) : (mCells n M).setIfInBounds k (.int .i64 v) = mCells n (updM M k v) := by
  refine mc_ext n _ _ (by simp [mc_size]) (fun j hj => ?_)
  by_cases e : j = k
  · subst e
    rw [Array.getElem?_setIfInBounds_self_of_lt (by rw [mc_size]; omega)]
    unfold updM; rw [if_pos rfl]
  · rw [Array.getElem?_setIfInBounds_ne (fun hh => e hh.symm), mc_get n M j hj]
    unfold updM; rw [if_neg e]
def MAt (w : World) (g n : Nat) (M : Nat → Int) : Prop := w.heap[g]? = some (.cells (mCells n M) 3 (0, 0))
theorem MAt.cell {w : World} {g n : Nat} {M : Nat → Int} (h : MAt w g n M) (j : Nat) (hj : j ≤ n) : w.cell? ⟨g, j, none⟩ = some (.int .i64 (M j)) := by
  rw [cell_of_row w g j _ _ (0, 0) h, mc_get n M j hj]
theorem MAt.frozen {w : World} {g n : Nat} {M : Nat → Int} (h : MAt w g n M) (j : Nat) : w.frozen? ⟨g, j, none⟩ = false := by simp [World.frozen?, show w.heap[g]? = _ from h]
theorem infoInt : (Try.prog.info? 3).map (fun i => (i.zero, i.size, i.bytes)) = some (some (.int .i64 0), 1, 8) := by kernel_rfl
theorem made_ints (n : Nat) : madeCells (Value.int .i64 0).cells ((n + 1) * 1) = mCells n (fun _ => 0) := by
  refine mc_ext n _ _ (by rw [size_madeCells]; omega) (fun j hj => ?_)
  have hz : (Value.int .i64 0).cells = #[.int .i64 0] := rfl
  unfold madeCells
  rw [hz, Array.getElem?_map, Array.getElem?_range, if_pos (by omega)]
  simp [Nat.mod_one]
theorem make_ints (n : Nat) (hn : n ≤ 600) (w : World) : (Instr.makeSlice 85 (.int .i64 ((n : Int) + 1)) (.int .i64 ((n : Int) + 1))).run Try.prog w = .ok (.slice (some ⟨w.heap.size, 0, none⟩) (n + 1) (n + 1)) (w.alloc (.cells (mCells n (fun _ => 0)) 3)) := by
  obtain ⟨i, hi, hz, hs, hb⟩ := info_parts infoInt
  have := run_make (P := Try.prog) w 85 3 i _ Try.underlying85 hi hz .i64 .i64 ((n : Int) + 1) ((n : Int) + 1) (by omega) (by omega) (by rw [hb]; omega) (by omega)
  have e : ((n : Int) + 1).toNat = n + 1 := by omega
  rw [this, e, hs, made_ints]
end Go.Proofs.Ytjhopgmionpkoaa
namespace Go.Proofs.Ytjhopgmionpkoaa
set_option maxRecDepth 20000
open Go.RowKit Mem

def waysOf (i : Ia.Ins) (k : Nat) : List Nat := if i.op = 10 then [Ju.tgt k i] else if i.op = 11 then [k + 1, Ju.tgt k i] else [k + 1]
def iCells (L : List Nat) : Array Value := (L.map fun (t : Nat) => Value.int .i64 (t : Int)).toArray
theorem refways (i : Ia.Ins) (k : Nat) (w : World) (hk : k ≤ 600) (hn : -2147483648 ≤ i.n ∧ i.n ≤ 2147483647) (hj : Ju.jumps i.op = true → 0 ≤ i.n) :
    Calls Try.prog 61 #[.agg #[.int .i64 i.op, .int .i32 i.n], .int .i64 (k : Int)] w fun e w' => ∃ g, e = .returned (.slice (some ⟨g, 0, none⟩) (waysOf i k).length (waysOf i k).length) ∧ w.heap.size ≤ g ∧ w'.heap[g]? = some (.cells (iCells (waysOf i k)) 3 (0, 0)) ∧ Below w.heap.size w w' := by
  obtain ⟨n1, n2⟩ := hn
  by_cases h10 : i.op = 10
  · have hL : waysOf i k = [Ju.tgt k i] := by unfold waysOf; rw [if_pos h10]
    have h0 := hj (by rw [h10]; rfl)
    have hT : (k : Int) + 1 + i.n = ((Ju.tgt k i : Nat) : Int) := by unfold Ju.tgt; omega
    rw [hL]
    generalize Ju.tgt k i = T at *
    clear hL hj
    go_enter Try.func61, Try.ntmps61
    go_wp2_with fail
    go_ret
    exact ⟨_, rfl, by omega, heap_alloc2_new _ _ _, ((Below.refl _ _).alloc (Nat.le_refl _) _).alloc (by simp) _⟩
  · by_cases h11 : i.op = 11
    · have hL : waysOf i k = [k + 1, Ju.tgt k i] := by unfold waysOf; rw [if_neg h10, if_pos h11]
      have h0 := hj (by rw [h11]; rfl)
      have hT : (k : Int) + 1 + i.n = ((Ju.tgt k i : Nat) : Int) := by unfold Ju.tgt; omega
      rw [hL]
      generalize Ju.tgt k i = T at *
      clear hL hj
      go_enter Try.func61, Try.ntmps61
      go_wp2_with fail
      go_ret
      exact ⟨_, rfl, by omega, heap_alloc2_new _ _ _, ((Below.refl _ _).alloc (Nat.le_refl _) _).alloc (by simp) _⟩
    · have hL : waysOf i k = [k + 1] := by unfold waysOf; rw [if_neg h10, if_neg h11]
      have h10b : (i.op == 10) = false := by simpa using h10
      have h11b : (i.op == 11) = false := by simpa using h11
      rw [hL]
      clear hL hj
      go_enter Try.func61, Try.ntmps61
      go_wp2_with fail
      go_ret
      exact ⟨_, rfl, by omega, heap_alloc2_new _ _ _, ((Below.refl _ _).alloc (Nat.le_refl _) _).alloc (by simp) _⟩
def dOf (s : Ju.St) (j : Nat) : Int := match s j with | none => -1 | some v => v.1
def fOf (s : Ju.St) (j : Nat) : Int := match s j with | none => 0 | some v => v.2
def RAt (w : World) (g n : Nat) (D : Nat → Int) : Prop := ∃ cs, w.heap[g]? = some (.cells cs 3 (0, 0)) ∧ n + 1 ≤ cs.size ∧ ∀ j, j ≤ n → cs[j]? = some (.int .i64 (D j))
theorem RAt.lt {w : World} {g n : Nat} {D : Nat → Int} (h : RAt w g n D) : g < w.heap.size := by
  obtain ⟨cs, hh, _⟩ := h
  exact (Array.getElem?_eq_some_iff.1 hh).1
theorem RAt.cell {w : World} {g n : Nat} {D : Nat → Int} (h : RAt w g n D) (j : Nat) (hj : j ≤ n) : w.cell? ⟨g, j, none⟩ = some (.int .i64 (D j)) := by
  obtain ⟨cs, hh, _, hc⟩ := h
  rw [cell_of_row w g j _ _ (0, 0) hh, hc j hj]
theorem RAt.frozen {w : World} {g n : Nat} {D : Nat → Int} (h : RAt w g n D) (j : Nat) : w.frozen? ⟨g, j, none⟩ = false := by
  obtain ⟨cs, hh, _⟩ := h
  simp [World.frozen?, hh]
theorem RAt.of_eq {w w' : World} {g n : Nat} {D : Nat → Int} (h : RAt w g n D) (he : w'.heap[g]? = w.heap[g]?) : RAt w' g n D := by
  obtain ⟨cs, hh, h2⟩ := h
  exact ⟨cs, he.trans hh, h2⟩
theorem RAt.below {w w' : World} {g n B : Nat} {D : Nat → Int} (h : RAt w g n D) (hb : Below B w w') (hg : g < B) : RAt w' g n D := h.of_eq (hb.block _ hg)
theorem RAt.set {w : World} {g n : Nat} {D D' : Nat → Int} (h : RAt w g n D) (j : Nat) (v : Int) (hD : ∀ t, D' t = if t = j then v else D t) : RAt (w.setCell ⟨g, j, none⟩ (.int .i64 v)) g n D' := by
  obtain ⟨cs, hh, hs, hc⟩ := h
  refine ⟨_, heap_setCell_same _ g j _ _ _ hh, by simpa using hs, fun t ht => ?_⟩
  rw [hD t]
  by_cases e : t = j
  · subst e
    rw [if_pos rfl, Array.getElem?_setIfInBounds_self_of_lt (by omega)]
  · rw [if_neg e, Array.getElem?_setIfInBounds_ne (fun hh => e hh.symm), hc t ht]
theorem RAt.other {w : World} {g g' n : Nat} {D : Nat → Int} (h : RAt w g n D) (j : Nat) (v : Value) (hne : g ≠ g') : RAt (w.setCell ⟨g', j, none⟩ v) g n D := h.of_eq (heap_setCell_other _ _ _ _ hne)
def negs (j : Nat) : List Value := List.replicate j (.int .i64 (-1))
def zers (j : Nat) : List Value := List.replicate j (.int .i64 0)
theorem negs_succ (j : Nat) : negs (j + 1) = negs j ++ [.int .i64 (-1)] := List.replicate_succ'
theorem zers_succ (j : Nat) : zers (j + 1) = zers j ++ [.int .i64 0] := List.replicate_succ'
theorem RAt.of_own {w : World} {base n : Nat} {v : Value} {x : Int} (h : w.ownsRow base 3 1 v (n + 1) (List.replicate (n + 1) (.int .i64 x))) : ∃ g c, v = .slice (some ⟨g, 0, none⟩) (n + 1) c ∧ base ≤ g ∧ n + 1 ≤ c ∧ c ≤ maxLen ∧ v.ownBlock = some g ∧ RAt w g n (fun _ => x) := by
  rcases h.2 with ⟨_, h0⟩ | ⟨g, cap, cur, rfl, hb, hh, hc, hm, hs, ht⟩
  · omega
  · refine ⟨g, cap, rfl, hb, hc, hm, rfl, cur, hh, by omega, fun j hj => ?_⟩
    have e : cur.toList[j]? = (cur.toList.take ((n + 1) * 1))[j]? := by rw [List.getElem?_take, if_pos (by omega)]
    rw [← Array.getElem?_toList, e, ht, List.getElem?_replicate, if_pos (by omega)]
/-- the ways taken one behind the other -/
def comes (s : Ju.St) (d f : Int) : List Nat → Option Ju.St
  | [] => some s
  | t :: r => match Ju.come s t d f with | none => none | some s1 => comes s1 d f r
theorem comes_snoc (d f : Int) : ∀ (L : List Nat) (s : Ju.St) (t : Nat), comes s d f (L ++ [t]) = match comes s d f L with | none => none | some s1 => Ju.come s1 t d f
  | [], s, t => by simp only [List.nil_append, comes]; cases Ju.come s t d f <;> rfl
  | u :: r, s, t => by
    simp only [List.cons_append, comes]
    cases h : Ju.come s u d f with
    | none => rfl
    | some s1 => exact comes_snoc d f r s1 t
theorem comes_none (d f : Int) : ∀ (L : List Nat) (s : Ju.St) (j : Nat), comes s d f (L.take j) = none → comes s d f L = none
  | [], s, j, h => by simpa using h
  | u :: r, s, 0, h => by simp [comes] at h
  | u :: r, s, j + 1, h => by
    simp only [List.take_succ_cons, comes] at h ⊢
    cases hc : Ju.come s u d f with
    | none => rfl
    | some s1 => rw [hc] at h; exact comes_none d f r s1 j h
theorem step_ways {f : Ju.Fr} {n k : Nat} {i : Ia.Ins} {s : Ju.St} {d0 f0 : Int} (hr : Ia.right i = 0) (hm : ¬ (0 ≤ Ju.room i.op f ∧ Ju.room i.op f ≤ i.n)) (hs : s k = some (d0, f0)) (h4 : ¬ (d0 < Ju.takes i.op ∨ 16 < d0 - Ju.takes i.op + Ju.gives i.op)) (hk : k < n) :
    ((∃ t ∈ waysOf i k, n < t) → (Ju.step f n i k s).1 = 11) ∧
    ((∀ t ∈ waysOf i k, t ≤ n) → match comes s (d0 - Ju.takes i.op + Ju.gives i.op) (f0 + 1) (waysOf i k) with
      | none => (Ju.step f n i k s).1 = 12
      | some S => Ju.step f n i k s = (0, S, d0 - Ju.takes i.op + Ju.gives i.op)) := by
  by_cases h10 : i.op = 10
  · have hj : Ju.jumps i.op = true := by rw [h10]; rfl
    have hL : waysOf i k = [Ju.tgt k i] := by unfold waysOf; rw [if_pos h10]
    rw [hL]
    refine ⟨fun ⟨t, ht, hlt⟩ => ?_, fun hall => ?_⟩
    · rw [List.mem_singleton] at ht; subst ht
      rw [Ju.step_jump hr hm hs h4 ⟨hj, hlt⟩]
    · have h5 : ¬ (Ju.jumps i.op = true ∧ n < Ju.tgt k i) := fun h => by have := hall _ (List.mem_singleton.2 rfl); have := h.2; omega
      simp only [comes]
      cases hc : Ju.come s (Ju.tgt k i) (d0 - Ju.takes i.op + Ju.gives i.op) (f0 + 1) with
      | none => rw [Ju.step_c2 hr hm hs h4 h5 (if_pos h10) ((if_pos hj).trans hc)]
      | some S => exact Ju.step_ok hr hm hs h4 h5 (if_pos h10) ((if_pos hj).trans hc)
  · by_cases h11 : i.op = 11
    · have hj : Ju.jumps i.op = true := by rw [h11]; rfl
      have hL : waysOf i k = [k + 1, Ju.tgt k i] := by unfold waysOf; rw [if_neg h10, if_pos h11]
      rw [hL]
      refine ⟨fun ⟨t, ht, hlt⟩ => ?_, fun hall => ?_⟩
      · simp only [List.mem_cons, List.not_mem_nil, or_false] at ht
        rcases ht with rfl | rfl
        · omega
        · rw [Ju.step_jump hr hm hs h4 ⟨hj, hlt⟩]
      · have h5 : ¬ (Ju.jumps i.op = true ∧ n < Ju.tgt k i) := fun h => by have := hall (Ju.tgt k i) (by simp); have := h.2; omega
        simp only [comes]
        cases hc : Ju.come s (k + 1) (d0 - Ju.takes i.op + Ju.gives i.op) (f0 + 1) with
        | none => rw [Ju.step_c1 hr hm hs h4 h5 ((if_neg h10).trans hc)]
        | some s1 =>
          dsimp only
          cases hc2 : Ju.come s1 (Ju.tgt k i) (d0 - Ju.takes i.op + Ju.gives i.op) (f0 + 1) with
          | none => rw [Ju.step_c2 hr hm hs h4 h5 ((if_neg h10).trans hc) ((if_pos hj).trans hc2)]
          | some S => exact Ju.step_ok hr hm hs h4 h5 ((if_neg h10).trans hc) ((if_pos hj).trans hc2)
    · have hj : ¬ Ju.jumps i.op = true := by unfold Ju.jumps; simp [h10, h11]
      have hL : waysOf i k = [k + 1] := by unfold waysOf; rw [if_neg h10, if_neg h11]
      rw [hL]
      refine ⟨fun ⟨t, ht, hlt⟩ => ?_, fun hall => ?_⟩
      · rw [List.mem_singleton] at ht; subst ht; omega
      · have h5 : ¬ (Ju.jumps i.op = true ∧ n < Ju.tgt k i) := fun h => hj h.1
        simp only [comes]
        cases hc : Ju.come s (k + 1) (d0 - Ju.takes i.op + Ju.gives i.op) (f0 + 1) with
        | none => rw [Ju.step_c1 hr hm hs h4 h5 ((if_neg h10).trans hc)]
        | some S => exact Ju.step_ok hr hm hs h4 h5 ((if_neg h10).trans hc) (if_neg hj)
end Go.Proofs.Ytjhopgmionpkoaa
