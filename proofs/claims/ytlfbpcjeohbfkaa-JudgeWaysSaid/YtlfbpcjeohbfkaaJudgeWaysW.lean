/-
  The walk of the law JudgeWays: on any way through a code that is accepted the depth stays within the report's, nothing outside the frame is touched, and at most Fuel instructions are met.
-/
import Derived.Test.YtlfbpcjeohbfkaaJuW
namespace Go.Proofs.Ytlfbpcjeohbfkaa
open Go.RowKit Mem

set_option maxRecDepth 100000 in
set_option maxHeartbeats 16000000 in
theorem judgeWays_walk (w : World) (A : Option Addr) (c : Nat) (l : List Ia.Ins) (hA : InsArg w A c l) (f : Ju.Fr) (_hf : In64 f.sl ∧ In64 f.ol ∧ In64 f.nw ∧ In64 f.is ∧ In64 f.os) (Aw : Option Addr) (nw cw : Nat) (B : Nat → Bool) (hw : BoolsAt w Aw nw B) :
    Calls Try.prog 4 #[.slice A l.length c, frAgg f, .slice Aw nw cw] w fun e w' => e = .returned (.bool true) ∧ Below w.heap.size w w' := by
  obtain ⟨hA1, hA2, hA3⟩ := hA
  by_cases h1 : l.length ≤ 600
  · have HA := Lib.hid (ISrc.at_ hA1)
    have HW := Lib.hid hw
    have na : ∀ k (h : k < l.length), -2147483648 ≤ (l[k]'h).n ∧ (l[k]'h).n ≤ 2147483647 := fun k h => (hA2 k h).2
    have HC1 := Lib.hid (fun (W : World) (h : InsAt W A l) => jcheck f l A c W h (by omega) na)
    have HFL := Lib.hid (fun (h : (Ju.check f l).er = 0) => check_flow h)
    have HBD := Lib.hid (fun (h : (Ju.check f l).er = 0) => check_bound h)
    have HZR := Lib.hid (fun (h : (Ju.check f l).er ≠ 0) => check_zero h)
    have HNA := Lib.hid na
    have HRM := Lib.hid (fun (op : Int) (W : World) => refroom op f W)
    clear hA1 hA2 hA3 na hw
    unfold frAgg at HC1 HRM
    have HGO : Hid (frAgg f = .agg #[.int .i64 f.sl, .int .i64 f.ol, .int .i64 f.nw, .int .i64 f.is, .int .i64 f.os]) := rfl
    rw [HGO.out]
    go_enter Try.func4, Try.ntmps4
    go_wp2_with fail
    obtain ⟨W0, hW0⟩ : ∃ W0, W0 = w.alloc (.cells #[.int .i64 f.sl, .int .i64 f.ol, .int .i64 f.nw, .int .i64 f.is, .int .i64 f.os] 24) := ⟨_, rfl⟩
    rw [← hW0]
    have HF0 : Hid (W0.heap[w.heap.size]? = some (.cells #[.int .i64 f.sl, .int .i64 f.ol, .int .i64 f.nw, .int .i64 f.is, .int .i64 f.os] 24 (0, 0))) := by unfold RowKit.Hid; rw [hW0]; exact heap_alloc_new _ _
    have HB0 : Hid (Below w.heap.size w W0) := by unfold RowKit.Hid; rw [hW0]; exact (Below.refl _ _).alloc (Nat.le_refl _) _
    clear hW0
    refine (HC1.out W0 (HA.out.below HB0.out (Nat.le_refl _))).mono ?_
    rintro e w1 ⟨r1, hr1, rfl, hb1⟩
    have HR1 := Lib.hid hr1
    have HF1 := Lib.hid ((hb1.block _ (Array.getElem?_eq_some_iff.1 HF0.out).1).trans HF0.out)
    have HB1 := Lib.hid (HB0.out.trans (hb1.mono HB0.out.size))
    have hz1 : w.heap.size < w1.heap.size := (Array.getElem?_eq_some_iff.1 HF1.out).1
    clear hb1 hr1 HF0 HB0
    by_cases e1 : r1.er = 0
    · obtain ⟨S, hF, hSn, hSt⟩ := HFL.out (by rw [← HR1.out]; exact e1)
      obtain ⟨bd1, bd2, bd3, bd4⟩ := HBD.out (by rw [← HR1.out]; exact e1)
      rw [← HR1.out] at hF hSn bd1 bd2 bd3 bd4
      have HF := Lib.hid hF
      have HSN := Lib.hid hSn
      have HST := Lib.hid hSt.1
      have HLE := Lib.hid (fun k (hk : k ≤ l.length) d f' hs => flow_le hF hSn (l.length - k) k (by omega) d f' hs)
      clear hF hSn hSt HFL HC1 HBD HZR
      go_wp2_with fail
      obtain ⟨w2, hw2⟩ : ∃ w2, w2 = w1.alloc (.cells #[.int .i64 r1.dp, .int .i64 r1.fu] 28) := ⟨_, rfl⟩
      rw [← hw2]
      have HP2 : Hid (w2.heap[w1.heap.size]? = some (.cells #[.int .i64 r1.dp, .int .i64 r1.fu] 28 (0, 0))) := by unfold RowKit.Hid; rw [hw2]; exact heap_alloc_new _ _
      have HF2 : Hid (w2.heap[w.heap.size]? = some (.cells #[.int .i64 f.sl, .int .i64 f.ol, .int .i64 f.nw, .int .i64 f.is, .int .i64 f.os] 24 (0, 0))) := by unfold RowKit.Hid; rw [hw2]; exact (heap_alloc_old _ _ hz1).trans HF1.out
      have HB2 : Hid (Below w.heap.size w w2) := by unfold RowKit.Hid; rw [hw2]; exact HB1.out.alloc HB1.out.size _
      have hz2 : w1.heap.size < w2.heap.size := (Array.getElem?_eq_some_iff.1 HP2.out).1
      clear hw2 HF1
      go_loopw [10, 11, 12, 13] (fun dv mv zv i wr => ∃ (k : Nat) (d fk : Int) (m z : Nat), k ≤ l.length ∧ i = .int .i64 k ∧ dv = .int .i64 d ∧ mv = .int .i64 (m : Int) ∧ zv = .int .i64 (z : Int) ∧ Hid (S k = some (d, fk)) ∧ (m : Int) ≤ fk ∧ z ≤ m ∧ Hid (Below w2.heap.size w2 wr)) (fun _ _ _ i _ => l.length - (intOf i).toNat)
      case atStart => exact ⟨0, 0, 0, 0, 0, Nat.zero_le _, rfl, rfl, rfl, rfl, HF.out.zero, by omega, Nat.le_refl _, Below.refl _ _⟩
      case round =>
        obtain ⟨k, d, fk, m, z, hk, rfl, rfl, rfl, rfl, hS, hm, hz, hB⟩ := hrel
        obtain ⟨sb1, sb2, sb3, sb4⟩ := HST.out k d fk hS.out
        obtain ⟨le1, le2⟩ := HLE.out k hk d fk hS.out
        have HPr := Lib.hid ((hB.out.block _ (by omega)).trans HP2.out)
        have HFr := Lib.hid ((hB.out.block _ (by omega)).trans HF2.out)
        have hzr : w2.heap.size ≤ wr.heap.size := hB.out.size
        by_cases hlt : k < l.length
        · obtain ⟨b, off, rfl, c0, c1⟩ := (HA.out.below HB2.out (Nat.le_refl _)).below hB.out (Nat.le_refl _) k hlt
          obtain ⟨d0, f0, q1, q2, q3, q4, q5, q6, q7, q8⟩ := HF.out.edge k hlt hlt
          rw [hS.out] at q1
          injection q1 with q1
          injection q1 with q1a q1b
          subst q1a q1b
          obtain ⟨t1, t2, t3, t4⟩ := takes_le (l[k]'hlt).op
          have hrn := right_n (i := l[k]'hlt) q2
          have hrr := right_room (i := l[k]'hlt) (f := f) q2
          have le2 := le2 hlt
          obtain ⟨T, hT⟩ : ∃ T, T = Ju.to k (l[k]'hlt) := ⟨_, rfl⟩
          have hTe : Ju.jumps (l[k]'hlt).op = true → (k : Int) + 1 + (l[k]'hlt).n = (T : Int) := fun h => by have := (hrn h).1; rw [hT]; unfold Ju.to; omega
          have hTl : Ju.jumps (l[k]'hlt).op = true → T ≤ l.length := fun h => by rw [hT]; exact q6 h
          have hTk : k < T := by rw [hT]; unfold Ju.to; omega
          rw [← hT] at q6 q8
          have hTK := Lib.hid (fun W => reftakes (l[k]'hlt).op f W)
          have hGV := Lib.hid (fun W => refgives (l[k]'hlt).op f W)
          have hRM := Lib.hid (fun W => HRM.out (l[k]'hlt).op W)
          obtain ⟨n1, n2⟩ := HNA.out k hlt
          clear hT
          generalize l[k]'hlt = ins at *
          have Q7 := Lib.hid q7
          have Q8 := Lib.hid q8
          clear q2 q6 q7 q8
          generalize Ju.takes ins.op = tk at *
          generalize Ju.gives ins.op = gv at *
          generalize Ju.room ins.op f = rm at *
          have r0 : (0 : Int) ≤ k := by omega
          have r1' : (k : Int) < (l.length : Int) := by omega
          have cf0 : wr.cell? ⟨w.heap.size, 0, none⟩ = some (.int .i64 f.sl) := cell_of_row _ _ 0 _ _ (0, 0) HFr.out
          have cf1 : wr.cell? ⟨w.heap.size, 1, none⟩ = some (.int .i64 f.ol) := cell_of_row _ _ 1 _ _ (0, 0) HFr.out
          have cf2 : wr.cell? ⟨w.heap.size, 2, none⟩ = some (.int .i64 f.nw) := cell_of_row _ _ 2 _ _ (0, 0) HFr.out
          have cf3 : wr.cell? ⟨w.heap.size, 3, none⟩ = some (.int .i64 f.is) := cell_of_row _ _ 3 _ _ (0, 0) HFr.out
          have cf4 : wr.cell? ⟨w.heap.size, 4, none⟩ = some (.int .i64 f.os) := cell_of_row _ _ 4 _ _ (0, 0) HFr.out
          have hzw : w.heap.size < wr.heap.size := by omega
          have hzp : w1.heap.size < wr.heap.size := by omega
          go_wp2_with fail
          obtain ⟨wa, hwa⟩ : ∃ wa, wa = wr.alloc (.cells #[.int .i64 ins.op, .int .i32 ins.n] 40) := ⟨_, rfl⟩
          rw [← hwa]
          have HIa : Hid (wa.heap[wr.heap.size]? = some (.cells #[.int .i64 ins.op, .int .i32 ins.n] 40 (0, 0))) := by unfold RowKit.Hid; rw [hwa]; exact heap_alloc_new _ _
          have HPa : Hid (wa.heap[w1.heap.size]? = some (.cells #[.int .i64 r1.dp, .int .i64 r1.fu] 28 (0, 0))) := by unfold RowKit.Hid; rw [hwa]; exact (heap_alloc_old _ _ hzp).trans HPr.out
          have HBa : Hid (Below w2.heap.size w2 wa) := by unfold RowKit.Hid; rw [hwa]; exact hB.out.alloc hzr _
          clear hwa cf0 cf1 cf2 cf3 cf4 c0 c1
          refine (hRM.out _).mono ?_
          rintro e wb ⟨rfl, hbb⟩
          have HIb := Lib.hid ((hbb.block _ (Array.getElem?_eq_some_iff.1 HIa.out).1).trans HIa.out)
          have HPb := Lib.hid ((hbb.block _ (Array.getElem?_eq_some_iff.1 HPa.out).1).trans HPa.out)
          have HBb := Lib.hid (HBa.out.trans (hbb.mono HBa.out.size))
          clear hbb
          have ci0b : wb.cell? ⟨wr.heap.size, 0, none⟩ = some (.int .i64 ins.op) := cell_of_row _ _ 0 _ _ (0, 0) HIb.out
          have ci1b : wb.cell? ⟨wr.heap.size, 1, none⟩ = some (.int .i32 ins.n) := cell_of_row _ _ 1 _ _ (0, 0) HIb.out
          have cp0b : wb.cell? ⟨w1.heap.size, 0, none⟩ = some (.int .i64 r1.dp) := cell_of_row _ _ 0 _ _ (0, 0) HPb.out
          have cp1b : wb.cell? ⟨w1.heap.size, 1, none⟩ = some (.int .i64 r1.fu) := cell_of_row _ _ 1 _ _ (0, 0) HPb.out
          have hroom : (0 ≤ rm ∧ 0 ≤ ins.n ∧ ¬ rm ≤ ins.n) ∨ ¬ 0 ≤ rm := by
            by_cases hh : 0 ≤ rm
            · exact .inl ⟨hh, hrr hh, fun h2 => q3 ⟨hh, h2⟩⟩
            · exact .inr hh
          clear hrr q3
          rcases hroom with ⟨hr1, hr2, hr3⟩ | hr1
          all_goals
            go_wp2_with fail
            refine (hTK.out _).mono ?_
            rintro e wc ⟨rfl, hbb⟩
            have HIc := Lib.hid ((hbb.block _ (Array.getElem?_eq_some_iff.1 HIb.out).1).trans HIb.out)
            have HPc := Lib.hid ((hbb.block _ (Array.getElem?_eq_some_iff.1 HPb.out).1).trans HPb.out)
            have HBc := Lib.hid (HBb.out.trans (hbb.mono HBb.out.size))
            clear hbb
            have ci0c : wc.cell? ⟨wr.heap.size, 0, none⟩ = some (.int .i64 ins.op) := cell_of_row _ _ 0 _ _ (0, 0) HIc.out
            have ci1c : wc.cell? ⟨wr.heap.size, 1, none⟩ = some (.int .i32 ins.n) := cell_of_row _ _ 1 _ _ (0, 0) HIc.out
            have cp0c : wc.cell? ⟨w1.heap.size, 0, none⟩ = some (.int .i64 r1.dp) := cell_of_row _ _ 0 _ _ (0, 0) HPc.out
            have cp1c : wc.cell? ⟨w1.heap.size, 1, none⟩ = some (.int .i64 r1.fu) := cell_of_row _ _ 1 _ _ (0, 0) HPc.out
            have hd1 : ¬ d - tk < 0 := by omega
            go_wp2_with fail
            refine (hGV.out _).mono ?_
            rintro e we ⟨rfl, hbb⟩
            have HIe := Lib.hid ((hbb.block _ (Array.getElem?_eq_some_iff.1 HIc.out).1).trans HIc.out)
            have HPe := Lib.hid ((hbb.block _ (Array.getElem?_eq_some_iff.1 HPc.out).1).trans HPc.out)
            have HBe := Lib.hid (HBc.out.trans (hbb.mono HBc.out.size))
            clear hbb
            have ci0e : we.cell? ⟨wr.heap.size, 0, none⟩ = some (.int .i64 ins.op) := cell_of_row _ _ 0 _ _ (0, 0) HIe.out
            have ci1e : we.cell? ⟨wr.heap.size, 1, none⟩ = some (.int .i32 ins.n) := cell_of_row _ _ 1 _ _ (0, 0) HIe.out
            have cp0e : we.cell? ⟨w1.heap.size, 0, none⟩ = some (.int .i64 r1.dp) := cell_of_row _ _ 0 _ _ (0, 0) HPe.out
            have cp1e : we.cell? ⟨w1.heap.size, 1, none⟩ = some (.int .i64 r1.fu) := cell_of_row _ _ 1 _ _ (0, 0) HPe.out
            clear ci0b ci1b cp0b cp1b ci0c ci1c cp0c cp1c
            have hd2 : ¬ r1.dp < d - tk + gv := by omega
            have hd3 : ¬ r1.fu < (m : Int) + 1 := by omega
            by_cases h10 : ins.op = 10
            · have hj : Ju.jumps ins.op = true := by rw [h10]; rfl
              obtain ⟨s1, s2⟩ := hrn hj
              have hte := hTe hj
              have htl := hTl hj
              obtain ⟨f1, e1', g1⟩ := Q8.out hj
              have HE1 := Lib.hid e1'
              go_wp2_with fail
              go_roundw
              case rel => exact ⟨T, d - tk + gv, f1, m + 1, z, by omega, by go_num, rfl, by go_num, by go_num, HE1, by omega, by omega, HBe⟩
              case measure => simp [intOf]; omega
            · by_cases h11 : ins.op = 11
              · have hj : Ju.jumps ins.op = true := by rw [h11]; rfl
                obtain ⟨s1, s2⟩ := hrn hj
                have hte := hTe hj
                have htl := hTl hj
                by_cases hzn : z < nw
                · have z0 : (0 : Int) ≤ z := by omega
                  have z1 : (z : Int) < (nw : Int) := by omega
                  obtain ⟨bb, oo, rfl, cz⟩ := (HW.out.below HB2.out (Nat.le_refl _)).below HBe.out (Nat.le_refl _) z hzn
                  cases hBz : B z with
                  | true =>
                    rw [hBz] at cz
                    obtain ⟨f1, e1', g1⟩ := Q8.out hj
                    have HE1 := Lib.hid e1'
                    go_wp2_with fail
                    go_roundw
                    case rel => exact ⟨T, d - tk + gv, f1, m + 1, z + 1, by omega, by go_num, rfl, by go_num, by go_num, HE1, by omega, by omega, HBe⟩
                    case measure => simp [intOf]; omega
                  | false =>
                    rw [hBz] at cz
                    obtain ⟨f1, e1', g1⟩ := Q7.out h10
                    have HE1 := Lib.hid e1'
                    go_wp2_with fail
                    go_roundw
                    case rel => exact ⟨k + 1, d - tk + gv, f1, m + 1, z + 1, by omega, by go_num, rfl, by go_num, by go_num, HE1, by omega, by omega, HBe⟩
                    case measure => simp [intOf]; omega
                · have z1 : ¬ (z : Int) < (nw : Int) := by omega
                  obtain ⟨f1, e1', g1⟩ := Q7.out h10
                  have HE1 := Lib.hid e1'
                  go_wp2_with fail
                  go_roundw
                  case rel => exact ⟨k + 1, d - tk + gv, f1, m + 1, z + 1, by omega, by go_num, rfl, by go_num, by go_num, HE1, by omega, by omega, HBe⟩
                  case measure => simp [intOf]; omega
              · have h10b : (ins.op == 10) = false := by simpa using h10
                have h11b : (ins.op == 11) = false := by simpa using h11
                obtain ⟨f1, e1', g1⟩ := Q7.out h10
                have HE1 := Lib.hid e1'
                go_wp2_with fail
                go_roundw
                case rel => exact ⟨k + 1, d - tk + gv, f1, m + 1, z, by omega, by go_num, rfl, by go_num, by go_num, HE1, by omega, by omega, HBe⟩
                case measure => simp [intOf]; omega
        · obtain rfl : k = l.length := by omega
          have hsn := HSN.out
          rw [hS.out] at hsn
          injection hsn with hsn
          injection hsn with e2 e3
          subst e2
          have cp0 : wr.cell? ⟨w1.heap.size, 0, none⟩ = some (.int .i64 r1.dp) := cell_of_row _ _ 0 _ _ (0, 0) HPr.out
          have cp1 : wr.cell? ⟨w1.heap.size, 1, none⟩ = some (.int .i64 r1.fu) := cell_of_row _ _ 1 _ _ (0, 0) HPr.out
          have HBE := Lib.hid (HB2.out.trans (hB.out.mono HB2.out.size))
          go_wp2_with fail
          refine (known_any _).mono ?_
          rintro e w8 ⟨rfl, hb8⟩
          have HB8 := Lib.hid (HBE.out.trans (hb8.mono HBE.out.size))
          clear hb8
          go_wp2_with fail
          go_ret
          exact ⟨rfl, HB8.out⟩
    · have e1b : (r1.er != 0) = true := by simpa using e1
      obtain ⟨zr1, zr2⟩ := HZR.out (by rw [← HR1.out]; exact e1)
      rw [← HR1.out] at zr1 zr2
      go_wp2_with fail
      refine (known_any _).mono ?_
      rintro e w8 ⟨rfl, hb8⟩
      have HB8 := Lib.hid ((HB1.out.alloc HB1.out.size _).trans (hb8.mono (by have := HB1.out.size; simp; omega)))
      clear hb8
      go_wp2_with fail
      go_ret
      exact ⟨rfl, HB8.out⟩
  · unfold frAgg
    go_enter Try.func4, Try.ntmps4
    go_wp2_with fail
    refine (known_any _).mono ?_
    rintro e w8 ⟨rfl, hb8⟩
    go_wp2_with fail
    go_ret
    exact ⟨rfl, ((Below.refl _ _).alloc (Nat.le_refl _) _).trans (hb8.mono (by simp))⟩
end Go.Proofs.Ytlfbpcjeohbfkaa
