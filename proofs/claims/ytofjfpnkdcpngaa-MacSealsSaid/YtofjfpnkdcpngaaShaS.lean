/-
  The sum of bytes, by the package sha.
-/
import Derived.Test.YtofjfpnkdcpngaaShaG
import Derived.Test.YtofjfpnkdcpngaaShaH
import Derived.Test.YtofjfpnkdcpngaaShaP
import Derived.Test.YtofjfpnkdcpngaaOpenB
import Derived.StillTailTactics
namespace Go.Proofs.Ytofjfpnkdcpngaa
open Go.RowKit Mem

def wordB (x : UInt32) : List UInt8 := [UInt8.ofNat (x.toNat / 16777216 % 256), UInt8.ofNat (x.toNat / 65536 % 256), UInt8.ofNat (x.toNat / 256 % 256), UInt8.ofNat (x.toNat % 256)]
def outB (l : List UInt32) : List UInt8 := l.flatMap wordB
def tailOf (b : List UInt8) : List UInt8 := b.drop (b.length / 64 * 64) ++ padOf b.length
def endSt (b : List UInt8) : Sh.St := setZ (setZ Sh.first (b.take (b.length / 64 * 64)) (b.length / 64 * 64 / 64)) (tailOf b) ((tailOf b).length / 64)
def sumOf (b : List UInt8) : List UInt8 := outB (Sh.stL (endSt b))
theorem outB_len (l : List UInt32) : (outB l).length = 4 * l.length := by
  induction l with
  | nil => rfl
  | cons c l ih => rw [outB, List.flatMap_cons, List.length_append]; show 4 + (outB l).length = _; rw [ih, List.length_cons]; omega
theorem padOf_len (n : Nat) : (padOf n).length ≤ 72 := by
  unfold padOf zeros
  simp [be8_len]
  omega
theorem src_from {w : World} {A : Option Addr} {b : List UInt8} (c : Nat) (h : BSrc w A c b) (lo : Nat) (h1 : lo ≤ b.length) (h2 : b.length ≤ c) :
    ∃ A', BSrc w A' (c - lo) (b.drop lo) ∧ ∀ wx, (Instr.slice 22 (.slice A b.length c) (some (.int .i64 (lo : Int))) none none).run Try.prog wx = .ok (.slice A' (b.drop lo).length (c - lo)) wx := by
  have hb : BytesAt w A b := h.at_
  obtain ⟨A', hs, hb'⟩ := hb.sliced lo b.length c h1 (Nat.le_refl _) h2
  rw [List.take_length] at hb'
  refine ⟨A', ⟨by simp [bcells], ?_, ?_⟩, fun wx => ?_⟩
  · rintro rfl
    rcases A with _ | ad
    · obtain ⟨h3, h4⟩ := h.none rfl
      simp
      omega
    · unfold Go.sliced at hs
      injection hs with hs
      split at hs <;> cases hs
  · rintro ad rfl j u hu
    have hj : j < (b.drop lo).length := by
      rcases Nat.lt_or_ge j (b.drop lo).length with h5 | h5
      · exact h5
      · rw [List.getElem?_eq_none (by rw [bcells_length]; exact h5)] at hu; cases hu
    exact (hb'.src (by omega)).elim fun ad2 ⟨e, hc⟩ => by
      injection e with e
      subst e
      exact hc j u hu
  · rw [run_slice_l (P := Try.prog) wx _ A b.length c (by kernel_rfl) _ _ (by omega) (by omega), size_u8]
    simp only [Result.andThen, Int.toNat_natCast, hs, List.length_drop]
theorem run_index_ws (w : World) (l : List Value) (k : Nat) (v : Value) (hk : k < 8) (hx : l[k]? = some v) :
    (Instr.index 43 (.agg l.toArray) (.int .i64 (k : Int))).run Try.prog w = .ok v w := by
  have h : Try.prog.underlying 43 = some (.array 8 42) := by kernel_rfl
  have hk' : (0 : Int) ≤ (k : Int) ∧ (k : Int) < ((8 : Nat) : Int) := by omega
  have hi : ∃ i, Try.prog.info? 42 = some i ∧ i.size = 1 := ⟨_, rfl, rfl⟩
  obtain ⟨i, hi, hi1⟩ := hi
  simp [Instr.index, run_underlying h, asIntOf, hk', go_sem]
  rw [if_pos hk, hx]
  rfl
def outCells (s : Sh.St) (k : Nat) : Array Value := (bcells (outB ((Sh.stL s).take k) ++ List.replicate (32 - 4 * k) 0)).toArray
theorem outCells_size (s : Sh.St) (k : Nat) (hk : k ≤ 8) : (outCells s k).size = 32 := by
  unfold outCells
  rw [List.size_toArray, bcells_length, List.length_append, outB_len, List.length_take, List.length_replicate]
  have : (Sh.stL s).length = 8 := rfl
  omega
theorem outCells_step (s : Sh.St) (k : Nat) (hk : k < 8) : ∃ x : UInt32, (wcells (Sh.stL s))[k]? = some (.int .u32 (x.toNat : Int)) ∧
    ((((outCells s k).setIfInBounds (4 * k) (.int .u8 ((UInt8.ofNat (x.toNat / 16777216 % 256)).toNat : Int))).setIfInBounds (4 * k + 1) (.int .u8 ((UInt8.ofNat (x.toNat / 65536 % 256)).toNat : Int))).setIfInBounds (4 * k + 2) (.int .u8 ((UInt8.ofNat (x.toNat / 256 % 256)).toNat : Int))).setIfInBounds (4 * k + 3) (.int .u8 ((UInt8.ofNat (x.toNat % 256)).toNat : Int)) = outCells s (k + 1) := by
  rcases (show k = 0 ∨ k = 1 ∨ k = 2 ∨ k = 3 ∨ k = 4 ∨ k = 5 ∨ k = 6 ∨ k = 7 by omega) with rfl | rfl | rfl | rfl | rfl | rfl | rfl | rfl <;> exact ⟨_, rfl, by kernel_rfl⟩
theorem wpAny_ops {P : Program} {md : Region.Mode} {ops ops' : Array Oper} {Q : Exit → Act → World → Prop} {f : Nat} {L : Array Bool} {a : Act} {w : World} (h : ops' = ops) (h2 : wpAny P md ops' Q f L a w) : wpAny P md ops Q f L a w := h ▸ h2
theorem wp_congr_world {P : Program} {c : Code} {Q : Exit → Act → World → Prop} {a : Act} {W W1 : World} (h : W1 = W) (hc : c.wp P Q a W1) : c.wp P Q a W := h ▸ hc
theorem Calls.congr_world {P : Program} {f : FuncId} {args : Array Value} {W W1 : World} {Q : Ending → World → Prop} (h : W1 = W) (hc : Calls P f args W1 Q) : Calls P f args W Q := h ▸ hc
set_option maxRecDepth 100000 in
set_option maxHeartbeats 4000000 in
theorem shasum (STEP : StepOk) (b : List UInt8) (A : Option Addr) (c : Nat) (w : World) (hA : BSrc w A c b) (hc : b.length ≤ c) (hm : b.length ≤ 140737488351232) (hm2 : c ≤ 9223372036854775807) :
    Calls Try.prog 18 #[.slice A b.length c] w fun e w' => e = .returned (.agg (bcells (sumOf b)).toArray) ∧ Below w.heap.size w w' := by
  obtain ⟨i0, hi, hi0, hi1, hi2⟩ := info_parts infoByte
  have HA := Lib.hid hA
  have HSTEP := Lib.hid STEP
  have HE : Hid (sumOf b = outB (Sh.stL (endSt b))) := rfl
  have HPAD := Lib.hid (fun W => shapad_ok b.length W (by omega))
  have HPL := Lib.hid (padOf_len b.length)
  clear hA STEP
  go_enter Try.func18, Try.ntmps18
  go_upto_region 4 with fail
  obtain ⟨W1, hW1⟩ : ∃ W1, W1 = w.alloc (.cells (Array.replicate 32 (.int .u8 0)) 27) := ⟨_, rfl⟩
  have HR0 : Hid (W1.heap[w.heap.size]? = some (.cells (Array.replicate 32 (.int .u8 0)) 27 (0, 0))) := by rw [hW1]; exact heap_alloc_new _ _
  have HS1 : Hid (W1.heap.size = w.heap.size + 1) := by rw [hW1]; simp [RowKit.Hid]
  have HB1 : Hid (Below w.heap.size w W1) := by rw [hW1]; exact (Below.refl _ _).alloc (Nat.le_refl _) _
  refine Calls.congr_world (W1 := W1) hW1 ?_
  refine (HPAD.out _).mono ?_
  rintro e w1 ⟨vp, rfl, hop, hb1⟩
  obtain ⟨Ap, cp, rfl⟩ := own_slice hop
  have HOP := Lib.hid (Src.of_own hop)
  have HOB := Lib.hid hop
  have HR1 := Lib.hid ((hb1.block _ (by have := HS1.out; omega)).trans HR0.out)
  have HB2 := Lib.hid (HB1.out.trans (hb1.mono HB1.out.size))
  have hz1 := hb1.size
  have HZ1 : Hid (w.heap.size + 1 ≤ w1.heap.size) := by have := HS1.out; unfold RowKit.Hid; omega
  clear hop hb1 hz1
  have HTL : Hid (tailOf b = b.drop (b.length / 64 * 64) ++ padOf b.length) := rfl
  have HES : Hid (endSt b = setZ (setZ Sh.first (b.take (b.length / 64 * 64)) (b.length / 64 * 64 / 64)) (tailOf b) ((tailOf b).length / 64)) := rfl
  obtain ⟨A', hA', hsl⟩ := src_from c (HA.out.below HB2.out (Nat.le_refl _)) (b.length / 64 * 64) (by omega) hc
  have HA' := Lib.hid hA'
  have e : ((b.length / 64 * 64 : Nat) : Int) = (b.length : Int) / 64 * 64 := by omega
  rw [e] at hsl
  have hdl : (b.drop (b.length / 64 * 64)).length ≤ 63 := by rw [List.length_drop]; omega
  have HDL := Lib.hid hdl
  have q0 : (0 : Int) ≤ (b.length : Int) / 64 := by omega
  have q1 : (b.length : Int) / 64 ≤ 140737488355328 := by omega
  clear hA' e hdl
  generalize padOf b.length = pd at *
  generalize hdb : b.drop (b.length / 64 * 64) = db at *
  clear hdb
  go_upto_region 4 with (first
    | (at_builtin; refine wpList_app_any rfl (.const (.slice none 0 0)) (.tmp 23) 22 rfl w1.heap.size 5 i0 (.int .u8 0) 1 1 Try.underlying22 hi hi0 hi1 hi2 rfl (by decide) (.slice none 0 0) 0 [] rfl (World.ownsRow_nil _ _ _ _) A' db.length (c - b.length / 64 * 64) (bcells db) rfl HA'.out (bcells_one db) ?c3 ?c4 (Nat.le_refl _) ?_))
  case c3 => have := HDL.out; unfold maxLen; omega
  case c4 => have := HDL.out; omega
  intro v1 w2 hown1 hg1
  have HB3 : Hid (Below w1.heap.size w1 w2) := below_of_grown hg1 (Nat.le_refl _) (fun g hg => by cases hg)
  have HO1 : Hid (w2.ownsRow w1.heap.size 5 1 v1 db.length (bcells db)) := hown1
  clear hown1 hg1 hsl
  go_upto_region 4 with (first
    | (at_builtin; refine wpList_app_any rfl (.tmp 24) (.tmp 25) 22 rfl w1.heap.size 5 i0 (.int .u8 0) 1 1 Try.underlying22 hi hi0 hi1 hi2 rfl (by decide) v1 db.length (bcells db) rfl HO1.out Ap pd.length cp (bcells pd) rfl (HOP.out.below HB3.out (Nat.le_refl _)) (bcells_one pd) ?d3 ?d4 HB3.out.size ?_))
  case d3 => have := HDL.out; have := HPL.out; unfold maxLen; omega
  case d4 => have := HDL.out; have := HPL.out; omega
  intro v2 w3 hown2 hg2
  have HB4 : Hid (Below w1.heap.size w1 w3) := HB3.out.trans (below_of_grown hg2 HB3.out.size (fun g hg => (HO1.out.lt g hg).1))
  have ho : w3.ownsRow w1.heap.size 5 1 v2 (tailOf b).length (bcells (tailOf b)) := by
    rw [HTL.out, List.length_append, bcells_append]; exact hown2
  have htl : (tailOf b).length = db.length + pd.length := by rw [HTL.out, List.length_append]
  have HO2 := Lib.hid ho
  obtain ⟨A2, c2, rfl⟩ := own_slice ho
  have hcap : (tailOf b).length ≤ c2 ∧ c2 ≤ 9223372036854775807 := by
    rcases ho.2 with ⟨hv, h0⟩ | ⟨g, cap, cur, hv, _, _, hn', hc', _⟩
    · injection hv with _ h1 h2; omega
    · injection hv with _ h1 h2; unfold maxLen at hc'; omega
  have HAt := Lib.hid (BytesAt.of_own ho)
  have HA3 := Lib.hid ((HA.out.below HB2.out (Nat.le_refl _)).below HB4.out (Nat.le_refl _))
  have HR3 := Lib.hid ((HB4.out.block _ (by have := HZ1.out; omega)).trans HR1.out)
  have HB5 := Lib.hid (HB2.out.trans (HB4.out.mono HB2.out.size))
  have HZ3 : Hid (w.heap.size + 1 ≤ w3.heap.size) := by have := HZ1.out; have := HB4.out.size; unfold RowKit.Hid; omega
  clear hown2 hg2 ho htl
  have e : (b.length : Int) / 64 * 64 = ((b.length / 64 * 64 : Nat) : Int) := by omega
  rw [e]
  clear e q0 q1 HTL HOP HOB HPAD HPL HDL HA' HO1 HB3 HB4 HR0 HR1 HB1 HB2 HS1 HZ1 hW1
  have HHC := Lib.hid hcap
  clear hcap
  go_upto_region 4 with fail
  go_cut [7] (fun s7 wx => ∃ g7 : Nat, s7 = .pointer (some ⟨g7, 0, none⟩) ∧ w3.heap.size ≤ g7 ∧ wx.heap[g7]? = some (.cells (wcells (Sh.stL (endSt b))).toArray 43 (0, 0)) ∧ Below w3.heap.size w3 wx)
  case first =>
    as_aux_lemma =>
      refine wp_region_any (by kernel_rfl) ?_
      refine wpAny_ops (ops' := sumOps) (by kernel_rfl) ?_
      refine sumRegion HSTEP.out b (tailOf b) A A2 c c2 (b.length / 64 * 64) _ w3 (by simp) rfl rfl rfl (BSrc.at_ HA3.out) HAt.out hc (by omega) HHC.out.1 HHC.out.2 (by omega) ?_
      rintro a wx ⟨A1, L, h, hall⟩
      rw [← HES.out] at h
      obtain ⟨g7, k1, k2, Z, k3, k4, k5⟩ := h.m (hall 7 (by omega))
      obtain rfl := k5 (hall 8 (by omega))
      have hf := put_form [7, 27, 28, 29, 30, 31, 32, 33] _ h.sz h.df (fun j hj => h.rest j (by simp at hj; simp [sumOwn, hj]))
      rw [hf]
      simp only [List.foldl, k1, h.get 0 27 (by decide) (hall 0 (by omega)), h.get 1 28 (by decide) (hall 1 (by omega)), h.get 2 29 (by decide) (hall 2 (by omega)), h.get 3 30 (by decide) (hall 3 (by omega)), h.get 4 31 (by decide) (hall 4 (by omega)), h.get 5 32 (by decide) (hall 5 (by omega)), h.get 6 33 (by decide) (hall 6 (by omega)), sumVal]
      simp only [Act.put, List.setIfInBounds_toArray, List.set_cons_zero, List.set_cons_succ]
      have hm : ∃ g : Nat, Value.pointer (some ⟨g7, 0, none⟩) = .pointer (some ⟨g, 0, none⟩) ∧ w3.heap.size ≤ g ∧ wx.heap[g]? = some (.cells (wcells (Sh.stL (endSt b))).toArray 43 (0, 0)) ∧ Below w3.heap.size w3 wx := ⟨g7, rfl, k2, k3, h.below⟩
      clear h hf k1 k2 k3 k4 k5
      go_wp2_with fail
      go_meet
      exact hm
  case rest =>
    obtain ⟨g7, rfl, hg7, hh, hb⟩ := hcut
    have HG7 := Lib.hid hg7
    have HH := Lib.hid hh
    have HBC := Lib.hid hb
    have hi : (Try.prog.info? 43).map (·.size) = some 8 := by kernel_rfl
    have HI := Lib.hid hi
    have HS8 : Hid ((wcells (Sh.stL (endSt b))).toArray.size = 8) := by unfold RowKit.Hid; rw [List.size_toArray, wcells_length]; rfl
    clear hi hh hb hg7
    obtain ⟨WZ, hWZ⟩ : ∃ WZ, WZ = wc.alloc (.cells (Array.replicate 32 (.int .u8 0)) 27) := ⟨_, rfl⟩
    have HZh : Hid (WZ.heap[wc.heap.size]? = some (.cells (outCells (endSt b) 0) 27 (0, 0))) := by rw [hWZ]; exact heap_alloc_new _ _
    have HZ7 : Hid (WZ.heap[g7]? = some (.cells (wcells (Sh.stL (endSt b))).toArray 43 (0, 0))) := by rw [hWZ]; exact (heap_alloc_old wc _ (Array.getElem?_eq_some_iff.1 HH.out).1).trans HH.out
    have HZB : Hid (Below w.heap.size w WZ) := by rw [hWZ]; exact (HB5.out.trans (HBC.out.mono HB5.out.size)).alloc (by have := HBC.out.size; have := HZ3.out; omega) _
    have HZR : Hid (WZ.heap[w.heap.size]? = some (.cells (Array.replicate 32 (.int .u8 0)) 27 (0, 0))) := by
      rw [hWZ]
      have h1 := (HBC.out.block _ (by have := HZ3.out; omega)).trans HR3.out
      exact (heap_alloc_old wc _ (Array.getElem?_eq_some_iff.1 h1).1).trans h1
    have HWC : Hid (w.heap.size < wc.heap.size) := by have := HBC.out.size; have := HZ3.out; unfold RowKit.Hid; omega
    generalize hes : endSt b = es at *
    have HWZ := Lib.hid hWZ
    have HL7 : Hid ((wc.alloc (.cells (Array.replicate 32 (.int .u8 0)) 27)).heap[g7]? = some (.cells (wcells (Sh.stL es)).toArray 43 (0, 0))) := by rw [← hWZ]; exact HZ7.out
    clear hWZ
    go_wp2_with (refine wpList_load_row rfl 43 (.tmp 7) rfl g7 rfl _ _ _ (.array 8 42) HL7.out (by kernel_rfl) rfl (by rw [HI.out, HS8.out]) ?_)
    refine wp_congr_world (W1 := WZ) HWZ.out ?_
    have HST : Hid (∀ k, k < 8 → ∃ x : UInt32, (wcells (Sh.stL es))[k]? = some (.int .u32 (x.toNat : Int)) ∧
      ((((outCells es k).setIfInBounds (4 * k) (.int .u8 ((UInt8.ofNat (x.toNat / 16777216 % 256)).toNat : Int))).setIfInBounds (4 * k + 1) (.int .u8 ((UInt8.ofNat (x.toNat / 65536 % 256)).toNat : Int))).setIfInBounds (4 * k + 2) (.int .u8 ((UInt8.ofNat (x.toNat / 256 % 256)).toNat : Int))).setIfInBounds (4 * k + 3) (.int .u8 ((UInt8.ofNat (x.toNat % 256)).toNat : Int)) = outCells es (k + 1)) := fun k hk => outCells_step es k hk
    have HSZ : Hid (∀ k, k ≤ 8 → (outCells es k).size = 32) := fun k hk => outCells_size es k hk
    have HFI : Hid (outCells es 8 = (bcells (sumOf b)).toArray) := by
      unfold RowKit.Hid
      rw [HE.out]
      unfold outCells
      rw [show 32 - 4 * 8 = 0 from rfl, List.replicate_zero, List.append_nil, List.take_of_length_le (Nat.le_refl 8)]
    clear HH HL7 HS8 HI HES HA3 HAt HO2 HR3 HB5 HZ3 HHC HBC HG7 HZ7 HWZ HE
    generalize outCells es = oc at *
    generalize wcells (Sh.stL es) = ws at *
    have HZh' := HZh
    go_loopw [35] (fun i wr => ∃ k : Nat, k ≤ 8 ∧ i = .int .i64 k ∧ Hid (wr.heap[wc.heap.size]? = some (.cells (oc k) 27 (0, 0))) ∧ Hid (wr.heap[w.heap.size]? = some (.cells (Array.replicate 32 (.int .u8 0)) 27 (0, 0))) ∧ Hid (Below w.heap.size w wr)) (fun i _ => 8 - (intOf i).toNat)
    case atStart => exact ⟨0, by omega, rfl, HZh, HZR, HZB⟩
    case round =>
      obtain ⟨k, hk, rfl, h8, h0, hB⟩ := hrel
      by_cases hlt : k < 8
      · obtain ⟨x, hx, hst⟩ := HST.out k hlt
        have HSK := Lib.hid hst
        have ix := run_index_ws wr ws k _ hlt hx
        clear hx hst
        have hsz := HSZ.out k (by omega)
        have hcell : ∀ j, j < 32 → ∃ v, wr.cell? ⟨wc.heap.size, j, none⟩ = some v := fun j hj => ⟨(oc k)[j]'(by omega), by rw [cell_of_row wr wc.heap.size j _ _ (0, 0) h8.out, Array.getElem?_eq_getElem (by omega)]⟩
        obtain ⟨v0, y0⟩ := hcell (4 * k) (by omega)
        obtain ⟨v1', y1⟩ := hcell (4 * k + 1) (by omega)
        obtain ⟨v2', y2⟩ := hcell (4 * k + 2) (by omega)
        obtain ⟨v3', y3⟩ := hcell (4 * k + 3) (by omega)
        have z0 := frozen_of_row wr wc.heap.size (4 * k) _ _ h8.out
        have z1 := frozen_of_row wr wc.heap.size (4 * k + 1) _ _ h8.out
        have z2 := frozen_of_row wr wc.heap.size (4 * k + 2) _ _ h8.out
        have z3 := frozen_of_row wr wc.heap.size (4 * k + 3) _ _ h8.out
        have hx1 : x.toNat < 4294967296 := x.toNat_lt
        generalize hxn : x.toNat = xn at *
        have X0 : (0 : Int) ≤ (xn : Int) := by omega
        have X1 : (xn : Int) ≤ 4294967295 := by omega
        have r0 : (0 : Int) ≤ 4 * (k : Int) := by omega
        have r1 : 4 * (k : Int) < 32 := by omega
        have r2 : 4 * (k : Int) + 1 < 32 := by omega
        have r3 : 4 * (k : Int) + 2 < 32 := by omega
        have r4 : 4 * (k : Int) + 3 < 32 := by omega
        have s1 : (0 : Int) ≤ 4 * (k : Int) + 1 := by omega
        have s2 : (0 : Int) ≤ 4 * (k : Int) + 2 := by omega
        have s3 : (0 : Int) ≤ 4 * (k : Int) + 3 := by omega
        have t0 : (4 * (k : Int)).toNat = 4 * k := by omega
        have t1 : (4 * (k : Int) + 1).toNat = 4 * k + 1 := by omega
        have t2 : (4 * (k : Int) + 2).toNat = 4 * k + 2 := by omega
        have t3 : (4 * (k : Int) + 3).toNat = 4 * k + 3 := by omega
        have HN8 : Hid (∀ u0 u1 u2 u3, ((((wr.setCell ⟨wc.heap.size, 4 * k, none⟩ u0).setCell ⟨wc.heap.size, 4 * k + 1, none⟩ u1).setCell ⟨wc.heap.size, 4 * k + 2, none⟩ u2).setCell ⟨wc.heap.size, 4 * k + 3, none⟩ u3).heap[wc.heap.size]? = some (.cells (((((oc k).setIfInBounds (4 * k) u0).setIfInBounds (4 * k + 1) u1).setIfInBounds (4 * k + 2) u2).setIfInBounds (4 * k + 3) u3) 27 (0, 0))) := fun u0 u1 u2 u3 =>
          heap_setCell_same _ _ _ _ _ u3 (heap_setCell_same _ _ _ _ _ u2 (heap_setCell_same _ _ _ _ _ u1 (heap_setCell_same _ _ _ _ _ u0 h8.out)))
        have HN0 : Hid (∀ u0 u1 u2 u3, ((((wr.setCell ⟨wc.heap.size, 4 * k, none⟩ u0).setCell ⟨wc.heap.size, 4 * k + 1, none⟩ u1).setCell ⟨wc.heap.size, 4 * k + 2, none⟩ u2).setCell ⟨wc.heap.size, 4 * k + 3, none⟩ u3).heap[w.heap.size]? = some (.cells (Array.replicate 32 (.int .u8 0)) 27 (0, 0))) := fun u0 u1 u2 u3 => by
          have hne : w.heap.size ≠ wc.heap.size := by have := HWC.out; omega
          rw [heap_setCell_other _ _ _ _ hne, heap_setCell_other _ _ _ _ hne, heap_setCell_other _ _ _ _ hne, heap_setCell_other _ _ _ _ hne]
          exact h0.out
        have HNB : Hid (∀ u0 u1 u2 u3, Below w.heap.size w ((((wr.setCell ⟨wc.heap.size, 4 * k, none⟩ u0).setCell ⟨wc.heap.size, 4 * k + 1, none⟩ u1).setCell ⟨wc.heap.size, 4 * k + 2, none⟩ u2).setCell ⟨wc.heap.size, 4 * k + 3, none⟩ u3)) := fun u0 u1 u2 u3 => by
          have hg : w.heap.size ≤ wc.heap.size := by have := HWC.out; omega
          exact (((hB.out.setCell hg _).setCell hg _).setCell hg _).setCell hg _
        have HE0 : Hid ((xn : Int) / 16777216 = ((UInt8.ofNat (xn / 16777216 % 256)).toNat : Int)) := by unfold RowKit.Hid; rw [UInt8.toNat_ofNat']; omega
        have HE1 : Hid ((xn : Int) / 65536 % 256 = ((UInt8.ofNat (xn / 65536 % 256)).toNat : Int)) := by unfold RowKit.Hid; rw [UInt8.toNat_ofNat']; omega
        have HE2 : Hid ((xn : Int) / 256 % 256 = ((UInt8.ofNat (xn / 256 % 256)).toNat : Int)) := by unfold RowKit.Hid; rw [UInt8.toNat_ofNat']; omega
        have HE3 : Hid ((xn : Int) % 256 = ((UInt8.ofNat (xn % 256)).toNat : Int)) := by unfold RowKit.Hid; rw [UInt8.toNat_ofNat']; omega
        clear hcell hsz hxn
        go_upto_region 9 with fail
        clear ix
        go_upto_region 10 with fail
        clear y0 y1 y2 y3 z0 z1 z2 z3 s1 s2 s3 t0 t1 t2 t3 r1 r2 r3 r4
        go_wp2_with fail
        go_roundw
        case rel =>
          refine ⟨k + 1, by omega, by go_num, ?_, HN0.out _ _ _ _, HNB.out _ _ _ _⟩
          unfold RowKit.Hid
          rw [HE0.out, HE1.out, HE2.out, HE3.out, HN8.out, HSK.out]
        case measure => simp [intOf]; omega
      · obtain rfl : k = 8 := by omega
        have hi : (Try.prog.info? 27).map (·.size) = some 32 := by kernel_rfl
        have HI := Lib.hid hi
        have HS32 := Lib.hid (HSZ.out 8 (Nat.le_refl _))
        clear hi
        rw [HFI.out] at h8 HS32
        have HONE : Hid ((bcells (sumOf b)).toArray.all (·.oneCell') = true) := by unfold RowKit.Hid bcells; simp [Value.oneCell']
        generalize hfin : bcells (sumOf b) = fin at *
        have HFIN := Lib.hid hfin
        clear hfin
        go_wp2_with (first
          | refine wpList_load_row rfl 27 (.tmp 8) rfl wc.heap.size rfl _ _ _ (.array 32 5) h8.out (by kernel_rfl) rfl (by rw [HI.out, HS32.out]) ?_
          | refine wpList_store_row rfl 27 (.tmp 2) (.tmp 66) rfl w.heap.size fin.toArray rfl rfl _ _ h0.out (by rw [HI.out, HS32.out]) (by rw [HS32.out]; rfl) HONE.out ?_)
        exact bodyPost_ret (v := .agg fin.toArray) (results_cell_row (P := Try.prog) (d := .array 32 5) rfl _ _ w.heap.size _ _ _ rfl (setRow_heap _ _ _ _ _ _ h0.out) (by kernel_rfl) rfl (by rw [HI.out, HS32.out])) rfl ⟨by rw [HFIN.out], below_setRow hB.out (Nat.le_refl _)⟩
end Go.Proofs.Ytofjfpnkdcpngaa
