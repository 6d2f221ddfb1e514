/-
  Slices of bytes, a row and a number returned together, and a state carried through blocks.
-/
import Derived.Test.YtofjfpnkdcpngaaShaB
import Derived.Test.YtofjfpnkdcpngaaKeep
namespace Go.Proofs.Ytofjfpnkdcpngaa
open Go.RowKit Mem

theorem results_row_tmp {P : Program} {fn : Func} {p u : Tmp} {ty : TypeId} (h : fn.results = #[.cell p ty, .tmp u]) (tmps : Array Value) (w : World) (g : Nat) (t : TypeId) (cs : Array Value) (fr : Nat × Nat) (d : TypeDesc) (v : Value)
    (hp : tmps.getD p undef = .pointer (some ⟨g, 0, none⟩)) (hg : w.heap[g]? = some (.cells cs t fr))
    (hu : P.underlying ty = some d) (hd : (match d with | .struct _ | .array _ _ => true | _ => false) = true) (hi : (P.info? ty).map (·.size) = some cs.size) (hv : tmps.getD u undef = v) :
    (results fn tmps).run P w = .ok (.tuple #[.agg cs, v]) w := by
  rw [results_cell_tmp (P := P) h, hp, hv]
  simp [asAddr, run_loadVar_row w g t ty cs fr d hg hu hd hi, Result.andThen]
theorem BytesAt.sliced {w : World} {A : Option Addr} {b : List UInt8} (h : BytesAt w A b) (lo hi m : Nat) (h1 : lo ≤ hi) (h2 : hi ≤ b.length) (h3 : hi ≤ m) : ∃ A', Go.sliced A lo hi m 1 = .slice A' (hi - lo) (m - lo) ∧ BytesAt w A' ((b.take hi).drop lo) := by
  unfold Go.sliced
  refine ⟨_, rfl, ?_⟩
  intro k hk
  have hk' : lo + k < hi := by rw [List.length_drop, List.length_take] at hk; omega
  obtain ⟨b0, off, rfl, hc⟩ := h (lo + k) (by omega)
  refine ⟨b0, off + lo, ?_, ?_⟩
  · rw [if_neg (by omega), Nat.mul_one, Option.map_some, add_plain]
  · rw [List.getElem_drop, List.getElem_take, Nat.add_assoc]
    exact hc
theorem size_u8 (w : World) : (sizeOf (Try.prog.elem 22)).run Try.prog w = .ok 1 w := by
  have e : Try.prog.elem 22 = 5 := by kernel_rfl
  obtain ⟨i0, hi, hi0, hi1, hi2⟩ := info_parts infoByte
  rw [e, run_sizeOf _ hi]
  have : Try.prog.cellsOf 5 = 1 := by kernel_rfl
  rw [this]
theorem slice_from {w : World} {A : Option Addr} {b : List UInt8} (c : Nat) (h : BytesAt w A b) (lo : Nat) (h1 : lo ≤ b.length) (h2 : b.length ≤ c) :
    ∃ A', BytesAt w A' (b.drop lo) ∧ ∀ wx, (Instr.slice 22 (.slice A b.length c) (some (.int .i64 (lo : Int))) none none).run Try.prog wx = .ok (.slice A' (b.length - lo) (c - lo)) wx := by
  obtain ⟨A', hs, hb⟩ := h.sliced lo b.length c h1 (Nat.le_refl _) h2
  rw [List.take_length] at hb
  refine ⟨A', hb, fun wx => ?_⟩
  rw [run_slice_l (P := Try.prog) wx _ A b.length c (by kernel_rfl) _ _ (by omega) (by omega), size_u8]
  simp only [Result.andThen, Int.toNat_natCast, hs]
theorem slice_to {w : World} {A : Option Addr} {b : List UInt8} (c : Nat) (h : BytesAt w A b) (hi : Nat) (h1 : hi ≤ b.length) (h2 : b.length ≤ c) :
    ∃ A', BytesAt w A' (b.take hi) ∧ ∀ wx, (Instr.slice 22 (.slice A b.length c) none (some (.int .i64 (hi : Int))) none).run Try.prog wx = .ok (.slice A' hi c) wx := by
  obtain ⟨A', hs, hb⟩ := h.sliced 0 hi c (Nat.zero_le _) h1 (by omega)
  rw [List.drop_zero] at hb
  refine ⟨A', hb, fun wx => ?_⟩
  rw [run_slice_h (P := Try.prog) wx _ A b.length c (by kernel_rfl) _ _ (by omega) (by omega), size_u8]
  simp only [Result.andThen, Int.toNat_natCast, hs, Nat.sub_zero]
theorem slice_mid {w : World} {A : Option Addr} {b : List UInt8} (c : Nat) (h : BytesAt w A b) (lo hi : Nat) (h0 : lo ≤ hi) (h1 : hi ≤ b.length) (h2 : b.length ≤ c) :
    ∃ A', BytesAt w A' ((b.take hi).drop lo) ∧ ∀ wx, (Instr.slice 22 (.slice A b.length c) (some (.int .i64 (lo : Int))) (some (.int .i64 (hi : Int))) none).run Try.prog wx = .ok (.slice A' (hi - lo) (c - lo)) wx := by
  obtain ⟨A', hs, hb⟩ := h.sliced lo hi c h0 h1 (by omega)
  refine ⟨A', hb, fun wx => ?_⟩
  rw [run_slice_lh (P := Try.prog) wx _ A b.length c (by kernel_rfl) _ _ _ _ (by omega) (by omega) (by omega), size_u8]
  simp only [Result.andThen, Int.toNat_natCast, hs]
/-- the state behind n blocks -/
def runN : Nat → Sh.St → List UInt8 → Sh.St
  | 0, s, _ => s
  | n + 1, s, b => runN n (Sh.step s (b.take 64)) (b.drop 64)
def setZ (s : Sh.St) (b : List UInt8) : Nat → Sh.St
  | 0 => s
  | k + 1 => Sh.step (setZ s b k) ((b.drop (64 * k)).take 64)
theorem setZ_shift (s : Sh.St) (b : List UInt8) : ∀ k, setZ (Sh.step s (b.take 64)) (b.drop 64) k = setZ s b (k + 1)
  | 0 => by simp [setZ]
  | k + 1 => by rw [setZ, setZ_shift s b k, setZ, List.drop_drop]; congr 3; omega
def StepOk : Prop := ∀ (s : Sh.St) (b : List UInt8) (A : Option Addr) (c : Nat) (w : World), BytesAt w A b → b.length = 64 →
    Calls Try.prog 35 #[.agg (wcells (Sh.stL s)).toArray, .slice A 64 c] w fun e w' => e = .returned (.tuple #[.agg (wcells (Sh.stL (Sh.step s b))).toArray, .int .i64 0]) ∧ Below w.heap.size w w'
def sliceLen2 : Value → Nat
  | .slice _ l _ => l
  | _ => 0
theorem StepOk.wide (h : StepOk) (s : Sh.St) (b : List UInt8) (A : Option Addr) (c : Nat) (w : World) (hA : BytesAt w A b) (hl : b.length = 64) :
    Calls Try.prog 35 #[.agg #[.int .u32 (s.a.toNat : Int), .int .u32 (s.b.toNat : Int), .int .u32 (s.c.toNat : Int), .int .u32 (s.d.toNat : Int), .int .u32 (s.e.toNat : Int), .int .u32 (s.f.toNat : Int), .int .u32 (s.g.toNat : Int), .int .u32 (s.h.toNat : Int)], .slice A 64 c] w
      fun e w' => ∃ t, t = Sh.step s b ∧ e = .returned (.tuple #[.agg #[.int .u32 (t.a.toNat : Int), .int .u32 (t.b.toNat : Int), .int .u32 (t.c.toNat : Int), .int .u32 (t.d.toNat : Int), .int .u32 (t.e.toNat : Int), .int .u32 (t.f.toNat : Int), .int .u32 (t.g.toNat : Int), .int .u32 (t.h.toNat : Int)], .int .i64 0]) ∧ Below w.heap.size w w' :=
  (h s b A c w hA hl).mono fun _ _ ⟨he, hb⟩ => ⟨Sh.step s b, rfl, he, hb⟩
theorem set8u {W : World} {g : Nat} {t : TypeId} {c0 c1 c2 c3 c4 c5 c6 c7 : Value} (h : W.heap[g]? = some (.cells #[c0, c1, c2, c3, c4, c5, c6, c7] t (0, 0))) (u0 u1 u2 u3 u4 u5 u6 u7 : Value) :
    ((((((((W.setCell ⟨g, 0, none⟩ u0).setCell ⟨g, 1, none⟩ u1).setCell ⟨g, 2, none⟩ u2).setCell ⟨g, 3, none⟩ u3).setCell ⟨g, 4, none⟩ u4).setCell ⟨g, 5, none⟩ u5).setCell ⟨g, 6, none⟩ u6).setCell ⟨g, 7, none⟩ u7).heap[g]? = some (.cells #[u0, u1, u2, u3, u4, u5, u6, u7] t (0, 0)) := by
  have h0 := heap_setCell_same _ g 0 _ t u0 h
  have h1 := heap_setCell_same _ g 1 _ t u1 h0
  have h2 := heap_setCell_same _ g 2 _ t u2 h1
  have h3 := heap_setCell_same _ g 3 _ t u3 h2
  have h4 := heap_setCell_same _ g 4 _ t u4 h3
  have h5 := heap_setCell_same _ g 5 _ t u5 h4
  have h6 := heap_setCell_same _ g 6 _ t u6 h5
  have h7 := heap_setCell_same _ g 7 _ t u7 h6
  rw [h7]
  simp only [List.setIfInBounds_toArray, List.set_cons_zero, List.set_cons_succ]
theorem set8u_far {W : World} {g j : Nat} (hj : j ≠ g) (u0 u1 u2 u3 u4 u5 u6 u7 : Value) : ((((((((W.setCell ⟨g, 0, none⟩ u0).setCell ⟨g, 1, none⟩ u1).setCell ⟨g, 2, none⟩ u2).setCell ⟨g, 3, none⟩ u3).setCell ⟨g, 4, none⟩ u4).setCell ⟨g, 5, none⟩ u5).setCell ⟨g, 6, none⟩ u6).setCell ⟨g, 7, none⟩ u7).heap[j]? = W.heap[j]? := by
  rw [heap_setCell_other _ _ _ _ hj, heap_setCell_other _ _ _ _ hj, heap_setCell_other _ _ _ _ hj, heap_setCell_other _ _ _ _ hj, heap_setCell_other _ _ _ _ hj, heap_setCell_other _ _ _ _ hj, heap_setCell_other _ _ _ _ hj, heap_setCell_other _ _ _ _ hj]
theorem set8u_below {B : Nat} {W0 W : World} {g : Nat} (h : Below B W0 W) (hg : B ≤ g) (u0 u1 u2 u3 u4 u5 u6 u7 : Value) : Below B W0 ((((((((W.setCell ⟨g, 0, none⟩ u0).setCell ⟨g, 1, none⟩ u1).setCell ⟨g, 2, none⟩ u2).setCell ⟨g, 3, none⟩ u3).setCell ⟨g, 4, none⟩ u4).setCell ⟨g, 5, none⟩ u5).setCell ⟨g, 6, none⟩ u6).setCell ⟨g, 7, none⟩ u7) := ((((((((h.setCell hg _).setCell hg _).setCell hg _).setCell hg _).setCell hg _).setCell hg _).setCell hg _).setCell hg _)
theorem row8 {W : World} {g : Nat} {t : TypeId} {st : Sh.St} (h : W.heap[g]? = some (.cells (wcells (Sh.stL st)).toArray t (0, 0))) : W.cell? ⟨g, 0, none⟩ = some (.int .u32 (st.a.toNat : Int)) ∧ W.cell? ⟨g, 1, none⟩ = some (.int .u32 (st.b.toNat : Int)) ∧ W.cell? ⟨g, 2, none⟩ = some (.int .u32 (st.c.toNat : Int)) ∧ W.cell? ⟨g, 3, none⟩ = some (.int .u32 (st.d.toNat : Int)) ∧ W.cell? ⟨g, 4, none⟩ = some (.int .u32 (st.e.toNat : Int)) ∧ W.cell? ⟨g, 5, none⟩ = some (.int .u32 (st.f.toNat : Int)) ∧ W.cell? ⟨g, 6, none⟩ = some (.int .u32 (st.g.toNat : Int)) ∧ W.cell? ⟨g, 7, none⟩ = some (.int .u32 (st.h.toNat : Int)) ∧ W.frozen? ⟨g, 0, none⟩ = false ∧ W.frozen? ⟨g, 1, none⟩ = false ∧ W.frozen? ⟨g, 2, none⟩ = false ∧ W.frozen? ⟨g, 3, none⟩ = false ∧ W.frozen? ⟨g, 4, none⟩ = false ∧ W.frozen? ⟨g, 5, none⟩ = false ∧ W.frozen? ⟨g, 6, none⟩ = false ∧ W.frozen? ⟨g, 7, none⟩ = false :=
  ⟨cell_of_row W g 0 _ _ (0, 0) h, cell_of_row W g 1 _ _ (0, 0) h, cell_of_row W g 2 _ _ (0, 0) h, cell_of_row W g 3 _ _ (0, 0) h, cell_of_row W g 4 _ _ (0, 0) h, cell_of_row W g 5 _ _ (0, 0) h, cell_of_row W g 6 _ _ (0, 0) h, cell_of_row W g 7 _ _ (0, 0) h, frozen_of_row W g 0 _ _ h, frozen_of_row W g 1 _ _ h, frozen_of_row W g 2 _ _ h, frozen_of_row W g 3 _ _ h, frozen_of_row W g 4 _ _ h, frozen_of_row W g 5 _ _ h, frozen_of_row W g 6 _ _ h, frozen_of_row W g 7 _ _ h⟩
set_option maxRecDepth 100000 in
set_option maxHeartbeats 4000000 in
theorem sharun (STEP : StepOk) (s : Sh.St) (b : List UInt8) (A : Option Addr) (c : Nat) (w : World) (hA : BytesAt w A b) (hc : b.length ≤ c) (hm : c ≤ 9223372036854775807) :
    Calls Try.prog 29 #[.agg (wcells (Sh.stL s)).toArray, .slice A b.length c] w fun e w' => e = .returned (.agg (wcells (Sh.stL (setZ s b (b.length / 64)))).toArray) ∧ Below w.heap.size w w' := by
  have HA := Lib.hid hA
  have HSTEP := Lib.hid STEP
  clear hA STEP
  have HS : Hid ((wcells (Sh.stL s)).toArray = #[.int .u32 (s.a.toNat : Int), .int .u32 (s.b.toNat : Int), .int .u32 (s.c.toNat : Int), .int .u32 (s.d.toNat : Int), .int .u32 (s.e.toNat : Int), .int .u32 (s.f.toNat : Int), .int .u32 (s.g.toNat : Int), .int .u32 (s.h.toNat : Int)]) := rfl
  rw [HS.out]
  go_enter Try.func29, Try.ntmps29
  go_wp2_with fail
  rw [← HS.out]
  obtain ⟨W0, hW0⟩ : ∃ W0, W0 = (w.alloc (.cells (wcells (Sh.stL s)).toArray 43)).alloc (.cells #[.int .u32 0, .int .u32 0, .int .u32 0, .int .u32 0, .int .u32 0, .int .u32 0, .int .u32 0, .int .u32 0] 43) := ⟨_, rfl⟩
  have HB0 : Hid (W0.heap[w.heap.size]? = some (.cells (wcells (Sh.stL s)).toArray 43 (0, 0))) := by rw [hW0]; exact heap_alloc2_old _ _ _
  have HB1 : Hid (W0.heap[w.heap.size + 1]? = some (.cells #[.int .u32 0, .int .u32 0, .int .u32 0, .int .u32 0, .int .u32 0, .int .u32 0, .int .u32 0, .int .u32 0] 43 (0, 0))) := by rw [hW0]; exact heap_alloc2_new _ _ _
  have HZ0 : Hid (W0.heap.size = w.heap.size + 2) := by rw [hW0]; simp [RowKit.Hid]
  have HBW : Hid (Below w.heap.size w W0) := by rw [hW0]; exact ((Below.refl _ _).alloc (Nat.le_refl _) _).alloc (by simp) _
  rw [← hW0]
  clear hW0
  go_loopw [1] (fun v wr => ∃ (k c' : Nat) (A' : Option Addr), v = .slice A' (b.drop (64 * k)).length c' ∧ (b.drop (64 * k)).length ≤ c' ∧ c' ≤ 9223372036854775807 ∧ 64 * k ≤ b.length ∧ Hid (BytesAt w A' (b.drop (64 * k))) ∧ Hid (wr.heap[w.heap.size]? = some (.cells (wcells (Sh.stL (setZ s b k))).toArray 43 (0, 0))) ∧ Hid (wr.heap[w.heap.size + 1]? = some (.cells #[.int .u32 0, .int .u32 0, .int .u32 0, .int .u32 0, .int .u32 0, .int .u32 0, .int .u32 0, .int .u32 0] 43 (0, 0))) ∧ Hid (Below w.heap.size w wr)) (fun v _ => sliceLen2 v)
  case atStart => exact ⟨0, c, A, rfl, hc, hm, by omega, HA, HB0, HB1, HBW⟩
  case round =>
    obtain ⟨k, c', A', rfl, hc', hm', hkb, hA', h0, h1, hB⟩ := hrel
    have HK : Hid (∀ t, t = Sh.step (setZ s b k) ((b.drop (64 * k)).take 64) → t = setZ s b (k + 1)) := fun t h => h
    have HD : Hid ((b.drop (64 * k)).drop 64 = b.drop (64 * (k + 1))) := by unfold RowKit.Hid; rw [List.drop_drop]; congr 1
    have HLEN : Hid ((b.drop (64 * k)).length = b.length - 64 * k) := by unfold RowKit.Hid; rw [List.length_drop]
    generalize b.drop (64 * k) = r at *
    by_cases hlt : 64 ≤ r.length
    · obtain ⟨At, hbt, rt0⟩ := slice_to c' hA'.out 64 hlt hc'
      obtain ⟨Af, hbf, rf0⟩ := slice_from c' hA'.out 64 hlt hc'
      have rt : ∀ wx, (Instr.slice 22 (.slice A' r.length c') none (some (.int .i64 64)) none).run Try.prog wx = .ok (.slice At 64 c') wx := rt0
      have rf : ∀ wx, (Instr.slice 22 (.slice A' r.length c') (some (.int .i64 64)) none none).run Try.prog wx = .ok (.slice Af (r.length - 64) (c' - 64)) wx := rf0
      have HBF := Lib.hid hbf
      have HST := Lib.hid (fun W h => HSTEP.out.wide (setZ s b k) (r.take 64) At c' W (hbt.below h (Nat.le_refl _)) (by rw [List.length_take]; omega))
      generalize setZ s b k = st at *
      obtain ⟨v0, v1, v2, v3, v4, v5, v6, v7, _, _, _, _, _, _, _, _⟩ := row8 h0.out
      have hgl : w.heap.size < wr.heap.size := by have := (Array.getElem?_eq_some_iff.1 h1.out).1; omega
      have hg1l : w.heap.size + 1 < wr.heap.size := (Array.getElem?_eq_some_iff.1 h1.out).1
      clear hbt hbf rt0 rf0
      go_wp2_with fail
      have RF := Lib.hid rf
      clear rf
      go_region_with
        (first
          | (go_at_call 35; go_loud (refine (HST.out _ (below_drewN hB.out 1)).mono ?_; rintro e wa ⟨t, ht, rfl, hba⟩; have h0a := (hba.block _ hgl).trans h0.out; obtain ⟨x0, x1, x2, x3, x4, x5, x6, x7, z0, z1, z2, z3, z4, z5, z6, z7⟩ := row8 h0a; have H0a := Lib.hid h0a; have HBa := Lib.hid ((below_drewN hB.out 1).trans (hba.mono hB.out.size)); have H1a := Lib.hid ((hba.block _ hg1l).trans h1.out); clear hba h0a)))
      all_goals
        have HN0 := Lib.hid (fun u0 u1 u2 u3 u4 u5 u6 u7 => set8u (W := wa) H0a.out u0 u1 u2 u3 u4 u5 u6 u7)
        have HN1 := Lib.hid (fun u0 u1 u2 u3 u4 u5 u6 u7 => (set8u_far (W := wa) (g := w.heap.size) (show w.heap.size + 1 ≠ w.heap.size by omega) u0 u1 u2 u3 u4 u5 u6 u7).trans H1a.out)
        have HNB := Lib.hid (fun u0 u1 u2 u3 u4 u5 u6 u7 => set8u_below HBa.out (Nat.le_refl w.heap.size) u0 u1 u2 u3 u4 u5 u6 u7)
        have rf := RF.out
        clear v0 v1 v2 v3 v4 v5 v6 v7 x0 x1 x2 x3 x4 x5 x6 x7 z0 z1 z2 z3 z4 z5 z6 z7
        go_wp2_with fail
        go_roundw
        case rel =>
          refine ⟨k + 1, c' - 64, Af, by rw [← HD.out, List.length_drop], by rw [← HD.out, List.length_drop]; omega, by omega, by have := HLEN.out; omega, ?_, ?_, HN1.out _ _ _ _ _ _ _ _, HNB.out _ _ _ _ _ _ _ _⟩
          · unfold RowKit.Hid; rw [← HD.out]; exact HBF.out
          · unfold RowKit.Hid; rw [← HK.out _ rfl]; exact HN0.out _ _ _ _ _ _ _ _
        case measure => simp [sliceLen2]; omega
    · have hk : k = b.length / 64 := by have := HLEN.out; omega
      subst hk
      have hi : (Try.prog.info? 43).map (·.size) = some 8 := by kernel_rfl
      have HI := Lib.hid hi
      have HS8 : Hid ((wcells (Sh.stL (setZ s b (b.length / 64)))).toArray.size = 8) := by unfold RowKit.Hid; rw [List.size_toArray, wcells_length]; rfl
      clear hi
      generalize hfin : setZ s b (b.length / 64) = fin at *
      have HFIN := Lib.hid hfin
      clear hfin
      go_wp2_with (first
        | refine wpList_load_row rfl 43 (.tmp 2) rfl w.heap.size rfl _ _ _ (.array 8 42) h0.out (by kernel_rfl) rfl (by rw [HI.out, HS8.out]) ?_
        | refine wpList_store_row rfl 43 (.tmp 4) (.tmp 17) rfl (w.heap.size + 1) (wcells (Sh.stL fin)).toArray rfl rfl _ _ h1.out (by rw [HI.out, HS8.out]) rfl (wcells_one _) ?_)
      refine bodyPost_ret (v := .agg (wcells (Sh.stL fin)).toArray) (results_cell_row (P := Try.prog) (d := .array 8 42) rfl _ _ (w.heap.size + 1) _ _ _ rfl (setRow_heap _ _ _ _ _ _ h1.out) (by kernel_rfl) rfl (by rw [HI.out, HS8.out])) rfl ⟨by rw [HFIN.out], below_setRow hB.out (by omega)⟩
end Go.Proofs.Ytofjfpnkdcpngaa
