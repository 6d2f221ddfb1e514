/-
  The state behind a block, by the reference; and what is no block, by both.
-/
import Derived.Test.YtofjfpnkdcpngaaShaF
import Derived.Test.YtofjfpnkdcpngaaShaS
import Derived.Test.YtofjfpnkdcpngaaShaD
namespace Go.Proofs.Ytofjfpnkdcpngaa
open Go.RowKit Mem

theorem u_sub (x : UInt32) : (4294967295 : Int) - (x.toNat : Int) = ((4294967295 - x).toNat : Int) := by
  have hx := x.toNat_lt
  have h : (4294967295 - x).toNat = 4294967295 - x.toNat := by
    rw [UInt32.toNat_sub_of_le _ _ (by rw [UInt32.le_iff_toNat_le]; show x.toNat ≤ 4294967295; omega)]
    rfl
  rw [h]
  omega
theorem e_t1r (st : Sh.St) (kw ww : UInt32) : ((st.h.toNat : Int) + bits .xor .u32 (bits .xor .u32 ((Sh.ror 6 st.e).toNat : Int) ((Sh.ror 11 st.e).toNat : Int)) ((Sh.ror 25 st.e).toNat : Int) +
    bits .or .u32 (bits .and .u32 (st.e.toNat : Int) (st.f.toNat : Int)) (bits .and .u32 (4294967295 - (st.e.toNat : Int)) (st.g.toNat : Int)) + (kw.toNat : Int) + (ww.toNat : Int)) % 4294967296 = ((Sh.t1 st kw ww).toNat : Int) := by
  unfold Sh.t1
  rw [Sh.ch_or]
  simp only [u_sub, u_xor, u_and, u_or, UInt32.toNat_add]
  omega
theorem e_t1r2 (st : Sh.St) (kw ww : UInt32) : (((st.h.toNat : Int) + bits .xor .u32 (bits .xor .u32 ((Sh.ror 6 st.e).toNat : Int) ((Sh.ror 11 st.e).toNat : Int)) ((Sh.ror 25 st.e).toNat : Int) +
    bits .or .u32 (bits .and .u32 (st.e.toNat : Int) (st.f.toNat : Int)) (bits .and .u32 (4294967295 - (st.e.toNat : Int)) (st.g.toNat : Int)) + (kw.toNat : Int)) % 4294967296 + (ww.toNat : Int)) % 4294967296 = ((Sh.t1 st kw ww).toNat : Int) := by
  have := e_t1r st kw ww
  omega
theorem e_t2r (st : Sh.St) : (bits .xor .u32 (bits .xor .u32 ((Sh.ror 2 st.a).toNat : Int) ((Sh.ror 13 st.a).toNat : Int)) ((Sh.ror 22 st.a).toNat : Int) +
    bits .or .u32 (bits .or .u32 (bits .and .u32 (st.a.toNat : Int) (st.b.toNat : Int)) (bits .and .u32 (st.a.toNat : Int) (st.c.toNat : Int))) (bits .and .u32 (st.b.toNat : Int) (st.c.toNat : Int))) % 4294967296 = ((Sh.t2 st).toNat : Int) := by
  unfold Sh.t2
  rw [Sh.maj_or]
  simp only [u_xor, u_and, u_or, UInt32.toNat_add]
  omega
theorem built8 (n0 n1 n2 n3 n4 n5 n6 n7 : Int) : Try.prog.built 43 [(0, .int .u32 n0), (1, .int .u32 n1), (2, .int .u32 n2), (3, .int .u32 n3), (4, .int .u32 n4), (5, .int .u32 n5), (6, .int .u32 n6), (7, .int .u32 n7)] =
    some #[.int .u32 n0, .int .u32 n1, .int .u32 n2, .int .u32 n3, .int .u32 n4, .int .u32 n5, .int .u32 n6, .int .u32 n7] := by kernel_rfl
theorem zero8 : (#[.int .u32 0, .int .u32 0, .int .u32 0, .int .u32 0, .int .u32 0, .int .u32 0, .int .u32 0, .int .u32 0] : Array Value) = (wcells (List.replicate 8 0)).toArray := by kernel_rfl
set_option maxRecDepth 100000 in
set_option maxHeartbeats 40000000 in
theorem refstep_aux (s fin : Sh.St) (b : List UInt8) (A : Option Addr) (c : Nat) (w : World) (hA : BytesAt w A b) (hl : b.length = 64) (HFIN : Hid (Sh.step s b = fin)) :
    Calls Try.prog 33 #[.agg (wcells (Sh.stL s)).toArray, .slice A 64 c] w fun e w' => e = .returned (.tuple #[.agg (wcells (Sh.stL fin)).toArray, .int .i64 0]) ∧ Below w.heap.size w w' := by
  have HA := Lib.hid hA
  have HL := Lib.hid hl
  clear hA hl
  have HS : Hid ((wcells (Sh.stL s)).toArray = #[.int .u32 (s.a.toNat : Int), .int .u32 (s.b.toNat : Int), .int .u32 (s.c.toNat : Int), .int .u32 (s.d.toNat : Int), .int .u32 (s.e.toNat : Int), .int .u32 (s.f.toNat : Int), .int .u32 (s.g.toNat : Int), .int .u32 (s.h.toNat : Int)]) := rfl
  rw [HS.out]
  go_enter Try.func33, Try.ntmps33
  go_upto_region 3 with fail
  rw [← HS.out]
  obtain ⟨W0, hW0⟩ : ∃ W0, W0 = (w.alloc (.cells (wcells (Sh.stL s)).toArray 43)).alloc (.cells #[.int .u32 0, .int .u32 0, .int .u32 0, .int .u32 0, .int .u32 0, .int .u32 0, .int .u32 0, .int .u32 0] 43) := ⟨_, rfl⟩
  have HB0 : Hid (W0.heap[w.heap.size]? = some (.cells (wcells (Sh.stL s)).toArray 43 (0, 0))) := by rw [hW0]; exact heap_alloc2_old _ _ _
  have HB1 : Hid (W0.heap[w.heap.size + 1]? = some (.cells #[.int .u32 0, .int .u32 0, .int .u32 0, .int .u32 0, .int .u32 0, .int .u32 0, .int .u32 0, .int .u32 0] 43 (0, 0))) := by rw [hW0]; exact heap_alloc2_new _ _ _
  have HZ0 : Hid (W0.heap.size = w.heap.size + 2) := by rw [hW0]; simp [RowKit.Hid]
  have HBW : Hid (Below w.heap.size w W0) := by rw [hW0]; exact ((Below.refl _ _).alloc (Nat.le_refl _) _).alloc (by simp) _
  rw [← hW0]
  clear hW0
  go_wp2_with fail
  refine (refwords b A c W0 (HA.out.below HBW.out (Nat.le_refl _)) HL.out).mono ?_
  rintro e w1 ⟨gw, cw, rfl, how, hb1⟩
  have HOW := Lib.hid how
  have HC1 := Lib.hid hb1
  clear how hb1
  go_wp2_with fail
  refine (refks _).mono ?_
  rintro e w2 ⟨rfl, hb2⟩
  have HOW2 := Lib.hid (own_below HOW.out hb2)
  have HC2 := Lib.hid (HC1.out.trans (hb2.mono HC1.out.size))
  have hi64 : (Try.prog.info? 53).map (·.size) = some 64 := by kernel_rfl
  have hi8 : (Try.prog.info? 43).map (·.size) = some 8 := by kernel_rfl
  have HI64 := Lib.hid hi64
  have HI8 := Lib.hid hi8
  have HK64 : Hid ((wcells Sh.ks).toArray.size = 64) := by unfold RowKit.Hid; rw [List.size_toArray, wcells_length, Sh.ks_length]
  have HS8 : Hid ((wcells (Sh.stL s)).toArray.size = 8) := by unfold RowKit.Hid; rw [List.size_toArray, wcells_length, stL_len]
  clear hb2 hi64 hi8
  go_upto_region 5 with (refine wpList_store_row rfl 53 (.tmp 7) (.tmp 23) rfl w2.heap.size (wcells Sh.ks).toArray rfl rfl _ _ (heap_alloc_new _ _) (by rw [HI64.out, HK64.out]) (by rw [HK64.out]; rfl) (wcells_one _) ?_)
  obtain ⟨W3, hW3⟩ : ∃ W3, W3 = (w2.alloc (.cells (Array.replicate 64 (.int .u32 0)) 53)).setRow w2.heap.size (wcells Sh.ks).toArray := ⟨_, rfl⟩
  have H7 : Hid (W3.heap[w2.heap.size]? = some (.cells (wcells Sh.ks).toArray 53 (0, 0))) := by rw [hW3]; exact setRow_heap _ _ _ _ _ _ (heap_alloc_new _ _)
  have HC3 : Hid (Below w2.heap.size w2 W3) := by rw [hW3]; exact below_setRow ((Below.refl _ _).alloc (Nat.le_refl _) _) (Nat.le_refl _)
  refine wp_congr_world (W1 := W3) hW3 ?_
  clear hW3
  have HOW3 := Lib.hid (own_below HOW2.out HC3.out)
  have HC4 := Lib.hid (HC2.out.trans (HC3.out.mono HC2.out.size))
  have HV : Hid (W3.heap[w.heap.size]? = some (.cells (wcells (Sh.stL s)).toArray 43 (0, 0))) := (HC4.out.block _ (by have := HZ0.out; omega)).trans HB0.out
  have HL6 : Hid ((Sh.sched b 64).length = 64) := Sh.sched_length b 64
  have HL7 : Hid (Sh.ks.length = 64) := Sh.ks_length
  have HR0 : Hid (∀ k, Sh.rnds b (k + 1) s = Sh.rnd (Sh.rnds b k s) (Sh.ks.getD k 0) ((Sh.sched b 64).getD k 0)) := fun k => rfl
  clear HOW HOW2 HC1 HC3
  generalize Sh.sched b 64 = ws at *
  generalize Sh.ks = kl at *
  have HSt : Hid (Sh.rnds b 0 s = s) := rfl
  generalize hrr : (fun k => Sh.rnds b k s) = rr at *
  have hr0 : ∀ k, Sh.rnds b k s = rr k := fun k => by rw [← hrr]
  rw [hr0] at HSt
  simp only [hr0] at HR0
  have HRR := Lib.hid hr0
  clear hrr hr0
  go_wp2_with (first
    | refine wpList_load_row rfl 43 (.tmp 2) rfl w.heap.size rfl _ _ _ (.array 8 42) HV.out (by kernel_rfl) rfl (by rw [HI8.out, HS8.out]) ?_
    | refine wpList_store_row rfl 43 (.tmp 8) (.tmp 24) rfl W3.heap.size (wcells (Sh.stL s)).toArray rfl rfl _ _ (heap_alloc_new _ _) (by rw [HI8.out, HS8.out]) (by rw [HS8.out]; rfl) (wcells_one _) ?_)
  have HG8 : Hid (((W3.alloc (.cells #[.int .u32 0, .int .u32 0, .int .u32 0, .int .u32 0, .int .u32 0, .int .u32 0, .int .u32 0, .int .u32 0] 43)).setRow W3.heap.size (wcells (Sh.stL s)).toArray).heap[W3.heap.size]? = some (.cells (wcells (Sh.stL (rr 0))).toArray 43 (0, 0))) := by
    rw [HSt.out]; exact setRow_heap _ _ _ _ _ _ (heap_alloc_new _ _)
  have HGB : Hid (Below W3.heap.size W3 ((W3.alloc (.cells #[.int .u32 0, .int .u32 0, .int .u32 0, .int .u32 0, .int .u32 0, .int .u32 0, .int .u32 0, .int .u32 0] 43)).setRow W3.heap.size (wcells (Sh.stL s)).toArray)) := below_setRow ((Below.refl _ _).alloc (Nat.le_refl _) _) (Nat.le_refl _)
  have HK2 : Hid (w2.heap.size < W3.heap.size) := (Array.getElem?_eq_some_iff.1 H7.out).1
  go_loopw [9] (fun i wr => ∃ k : Nat, k ≤ 64 ∧ i = .int .i64 k ∧ Hid (wr.heap[W3.heap.size]? = some (.cells (wcells (Sh.stL (rr k))).toArray 43 (0, 0))) ∧ Hid (Below W3.heap.size W3 wr)) (fun i _ => 64 - (intOf i).toNat)
  case atStart => exact ⟨0, by omega, rfl, HG8, HGB⟩
  case round =>
    obtain ⟨k, hk, rfl, h8, hB⟩ := hrel
    by_cases hlt : k < 64
    · as_aux_lemma =>
        have hk6 : k < ws.length := by rw [HL6.out]; exact hlt
        have hk7 : k < kl.length := by rw [HL7.out]; exact hlt
        have cw6 := own_at (own_below HOW3.out hB.out) hk6
        have ck : wr.cell? ⟨w2.heap.size, k, none⟩ = some (.int .u32 (((kl[k]'hk7).toNat : Nat) : Int)) := by
          rw [cell_of_row wr w2.heap.size k _ _ (0, 0) ((hB.out.block _ HK2.out).trans H7.out), List.getElem?_toArray]; exact wcells_at _ k hk7
        have HR : Hid (rr (k + 1) = Sh.rnd (rr k) (kl[k]'hk7) (ws[k]'hk6)) := by
          have := HR0.out k
          rw [List.getD_eq_getElem?_getD, List.getD_eq_getElem?_getD, List.getElem?_eq_getElem hk6, List.getElem?_eq_getElem hk7] at this
          exact this
        generalize ws[k]'hk6 = ww at *
        generalize kl[k]'hk7 = kw at *
        generalize hst : rr k = st at *
        obtain ⟨v0, v1, v2, v3, v4, v5, v6, v7, _, _, _, _, _, _, _, _⟩ := row8 h8.out
        have HBn : Hid (∀ n, Below W3.heap.size W3 (wr.drewN n)) := fun n => below_drewN hB.out n
        have HH : Hid (∀ n, (wr.drewN n).heap[W3.heap.size]? = some (.cells (wcells (Sh.stL st)).toArray 43 (0, 0))) := fun n => h8.out
        have HST8 : Hid ((wcells (Sh.stL st)).toArray.size = 8) := by unfold RowKit.Hid; rw [List.size_toArray, wcells_length, stL_len]
        have r0 : (0 : Int) ≤ k := by omega
        have r1 : (k : Int) < 64 := by omega
        have e0 : (0 : Int) ≤ (st.e.toNat : Int) := by omega
        have e1 : (st.e.toNat : Int) ≤ 4294967295 := by have := st.e.toNat_lt; omega
        clear hk6 hk7 hst h8 hB
        go_upto_region 13 with fail
        clear e0 e1
        go_cut [14] from 58 to 80 (fun s14 wx => s14 = .int .u32 ((Sh.t1 st kw ww).toNat : Int) ∧ Hid (wx.heap[W3.heap.size]? = some (.cells (wcells (Sh.stL st)).toArray 43 (0, 0))) ∧ Hid (Below W3.heap.size W3 wx))
        case first =>
          go_quiet ((go_at_call 38; exact Calls.quiet_of_same (same_right (refturnedI _ _ (by decide) (by decide) _))))
          first | rw [e_t1r] | rw [e_t1r2]
          go_wp2_with fail
          go_meet
          exact ⟨rfl, HH.out _, HBn.out _⟩
        case rest =>
        obtain ⟨rfl, h8c, hBc⟩ := hcut
        generalize hT1 : Sh.t1 st kw ww = T1 at *
        have HT1 := Lib.hid hT1
        clear hT1 v0 v1 v2 v3 v4 v5 v6 v7 cw6 ck
        obtain ⟨v0, v1, v2, v3, v4, v5, v6, v7, _, _, _, _, _, _, _, _⟩ := row8 h8c.out
        have HX : Hid (∀ (cs : Array Value), (wc.setRow W3.heap.size cs).heap[W3.heap.size]? = some (.cells cs 43 (0, 0)) ∧ Below W3.heap.size W3 (wc.setRow W3.heap.size cs)) := fun cs => ⟨setRow_heap _ _ _ _ _ _ h8c.out, below_setRow hBc.out (Nat.le_refl _)⟩
        go_upto_region 15 with (go_at_call 38; refine (refturnedI _ _ (by decide) (by decide) _).mono ?_; rintro e w' ⟨rfl, rfl⟩)
        rw [e_t2r]
        generalize hT2 : Sh.t2 st = T2 at *
        have HT2 := Lib.hid hT2
        clear hT2
        have hE : (#[.int .u32 (((T1.toNat : Int) + (T2.toNat : Int)) % 4294967296), .int .u32 (st.a.toNat : Int), .int .u32 (st.b.toNat : Int), .int .u32 (st.c.toNat : Int), .int .u32 (((st.d.toNat : Int) + (T1.toNat : Int)) % 4294967296), .int .u32 (st.e.toNat : Int), .int .u32 (st.f.toNat : Int), .int .u32 (st.g.toNat : Int)] : Array Value) = (wcells (Sh.stL (rr (k + 1)))).toArray := by
          rw [HR.out]
          unfold Sh.rnd
          rw [HT1.out, HT2.out, u_add, u_add]
          rfl
        have HE := Lib.hid hE
        have HE1 : Hid ((#[.int .u32 (((T1.toNat : Int) + (T2.toNat : Int)) % 4294967296), .int .u32 (st.a.toNat : Int), .int .u32 (st.b.toNat : Int), .int .u32 (st.c.toNat : Int), .int .u32 (((st.d.toNat : Int) + (T1.toNat : Int)) % 4294967296), .int .u32 (st.e.toNat : Int), .int .u32 (st.f.toNat : Int), .int .u32 (st.g.toNat : Int)] : Array Value).all (·.oneCell') = true) := by unfold RowKit.Hid; rw [hE]; exact wcells_one _
        clear hE
        go_wp2_with (first
          | ((with_reducible show wpList _ _ _ (Oper.mk _ (Op.build _ _) _ _ _ _ :: _) _ _); refine wpList_build_to rfl 43 _ rfl #[.int .u32 (((T1.toNat : Int) + (T2.toNat : Int)) % 4294967296), .int .u32 (st.a.toNat : Int), .int .u32 (st.b.toNat : Int), .int .u32 (st.c.toNat : Int), .int .u32 (((st.d.toNat : Int) + (T1.toNat : Int)) % 4294967296), .int .u32 (st.e.toNat : Int), .int .u32 (st.f.toNat : Int), .int .u32 (st.g.toNat : Int)] ((congrArg (Program.built _ _) (by simp only [List.map_toArray, List.map_cons, List.map_nil]; rfl)).trans (built8 _ _ _ _ _ _ _ _)) ?_)
          | ((with_reducible show wpList _ _ _ (Oper.mk _ (Op.store _ _ _) _ _ _ _ :: _) _ _); refine wpList_store_row rfl 43 (.tmp 8) (.tmp 109) rfl W3.heap.size _ rfl rfl _ _ h8c.out (by rw [HI8.out]; rfl) (by rw [HST8.out]; rfl) HE1.out ?_))
        go_roundw
        case rel =>
          refine ⟨k + 1, by omega, by go_num, ?_, (HX.out _).2⟩
          unfold RowKit.Hid
          rw [← HE.out]
          exact (HX.out _).1
        case measure => simp [intOf]; omega
    · obtain rfl : k = 64 := by omega
      rw [show ((64 : Nat) : Int) = 64 from rfl]
      have HP : Hid (fin = Sh.plus s (rr 64)) := by
        unfold RowKit.Hid
        rw [← HFIN.out]
        unfold Sh.step
        rw [HRR.out]
      clear HFIN HRR
      generalize rr 64 = vv at *
      clear HR0 HSt HG8 HGB HL6 HL7 HOW3 H7
      have h8' : Hid (wr.heap[W3.heap.size]? = some (.cells (wcells (addTo (Sh.stL s) (Sh.stL vv) 0)).toArray 43 (0, 0))) := h8
      have hlt3 : Hid (w.heap.size + 1 < W3.heap.size) := by have := HC4.out.size; have := HZ0.out; unfold RowKit.Hid; omega
      go_wp2_with fail
      go_loopw [16] (fun i wq => ∃ k : Nat, k ≤ 8 ∧ i = .int .i64 k ∧ Hid (wq.heap[W3.heap.size]? = some (.cells (wcells (addTo (Sh.stL s) (Sh.stL vv) k)).toArray 43 (0, 0))) ∧ Hid (Below W3.heap.size W3 wq)) (fun i _ => 8 - (intOf i).toNat)
      case atStart => exact ⟨0, by omega, rfl, h8', hB⟩
      case round =>
        obtain ⟨k, hk, rfl, hg, hB⟩ := hrel
        by_cases hlt : k < 8
        · as_aux_lemma =>
            obtain ⟨x, y, hx, hy, hxy⟩ := addTo_step s vv k hlt
            have c1 := (cell_of_row wr W3.heap.size k _ _ (0, 0) hg.out).trans (wcells_get hx)
            have f1 := frozen_of_row wr W3.heap.size k _ _ hg.out
            have c2 := (cell_of_row wr w.heap.size k _ _ (0, 0) ((hB.out.block _ (by have := hlt3.out; omega)).trans HV.out)).trans (wcells_get hy)
            have HN : Hid (∀ n, ((wr.drewN n).setCell ⟨W3.heap.size, k, none⟩ (.int .u32 ((x + y).toNat : Int))).heap[W3.heap.size]? = some (.cells (wcells (addTo (Sh.stL s) (Sh.stL vv) (k + 1))).toArray 43 (0, 0))) := fun n => by
              have := heap_setCell_same (wr.drewN n) W3.heap.size k _ _ (.int .u32 ((x + y).toNat : Int)) hg.out
              rw [wcells_set, hxy] at this
              exact this
            have HNB : Hid (∀ n u, Below W3.heap.size W3 ((wr.drewN n).setCell ⟨W3.heap.size, k, none⟩ u)) := fun n u => (below_drewN hB.out n).setCell (Nat.le_refl _) u
            have r0 : (0 : Int) ≤ k := by omega
            have r1 : (k : Int) < 8 := by omega
            clear hx hy hxy
            go_wp2_with fail
            go_still_tail 9, (by kernel_rfl)
            change wpList _ _ _ _ _ wr.drew
            go_wp2_with fail
            rw [u_add]
            have HN1 := Lib.hid (HN.out 1)
            have HB1 := Lib.hid (HNB.out 1 (.int .u32 ((x + y).toNat : Int)))
            go_roundw
            case rel => exact ⟨k + 1, by omega, by go_num, HN1, HB1⟩
            case measure => simp [intOf]; omega
        · as_aux_lemma =>
            obtain rfl : k = 8 := by omega
            have hlast : addTo (Sh.stL s) (Sh.stL vv) 8 = Sh.stL (Sh.plus s vv) := rfl
            rw [hlast, ← HP.out] at hg
            have HR1 := Lib.hid ((hB.out.block _ hlt3.out).trans ((HC4.out.block _ (by have := HZ0.out; omega)).trans HB1.out))
            have HSF : Hid ((wcells (Sh.stL fin)).toArray.size = 8) := by unfold RowKit.Hid; rw [List.size_toArray, wcells_length, stL_len]
            clear hlast HP HB0 HS
            go_wp2_with (first
              | refine wpList_load_row rfl 43 (.tmp 8) rfl W3.heap.size rfl _ _ _ (.array 8 42) hg.out (by kernel_rfl) rfl (by rw [HI8.out, HSF.out]) ?_
              | refine wpList_store_row rfl 43 (.tmp 4) (.tmp 123) rfl (w.heap.size + 1) (wcells (Sh.stL fin)).toArray rfl rfl _ _ HR1.out (by rw [HI8.out, HSF.out]) (by rw [HSF.out]; rfl) (wcells_one _) ?_)
            exact bodyPost_ret (v := .tuple #[.agg (wcells (Sh.stL fin)).toArray, .int .i64 0]) (results_row_tmp (P := Try.prog) (d := .array 8 42) rfl _ _ (w.heap.size + 1) _ _ _ _ rfl (setRow_heap _ _ _ _ _ _ HR1.out) (by kernel_rfl) rfl (by rw [HI8.out, HSF.out]) rfl) rfl ⟨rfl, below_setRow ((HBW.out.trans (HC4.out.mono (by have := HZ0.out; omega))).trans (hB.out.mono (by have := hlt3.out; omega))) (by omega)⟩
theorem refstep_ok (s : Sh.St) (b : List UInt8) (A : Option Addr) (c : Nat) (w : World) (hA : BytesAt w A b) (hl : b.length = 64) :
    Calls Try.prog 33 #[.agg (wcells (Sh.stL s)).toArray, .slice A 64 c] w fun e w' => e = .returned (.tuple #[.agg (wcells (Sh.stL (Sh.step s b))).toArray, .int .i64 0]) ∧ Below w.heap.size w w' :=
  refstep_aux s _ b A c w hA hl rfl
set_option maxRecDepth 100000 in
set_option maxHeartbeats 4000000 in
theorem shastep_bad (s : Sh.St) (n : Nat) (A : Option Addr) (c : Nat) (w : World) (hn : n ≠ 64) :
    Calls Try.prog 35 #[.agg (wcells (Sh.stL s)).toArray, .slice A n c] w fun e w' => e = .returned (.tuple #[.agg (wcells (List.replicate 8 0)).toArray, .int .i64 1]) ∧ Below w.heap.size w w' := by
  have hne : ((n : Int) != 64) = true := by rw [bne_iff_ne]; omega
  have HS : Hid ((wcells (Sh.stL s)).toArray = #[.int .u32 (s.a.toNat : Int), .int .u32 (s.b.toNat : Int), .int .u32 (s.c.toNat : Int), .int .u32 (s.d.toNat : Int), .int .u32 (s.e.toNat : Int), .int .u32 (s.f.toNat : Int), .int .u32 (s.g.toNat : Int), .int .u32 (s.h.toNat : Int)]) := rfl
  rw [HS.out, ← zero8]
  clear hn
  go_enter Try.func35, Try.ntmps35
  go_wp2_with fail
  exact bodyPost_ret (v := .tuple #[.agg #[.int .u32 0, .int .u32 0, .int .u32 0, .int .u32 0, .int .u32 0, .int .u32 0, .int .u32 0, .int .u32 0], .int .i64 1]) (results_row_tmp (P := Try.prog) (d := .array 8 42) rfl _ _ (w.heap.size + 1) _ _ _ _ rfl (heap_alloc2_new _ _ _) (by kernel_rfl) rfl (by kernel_rfl) rfl) rfl ⟨rfl, ((Below.refl _ _).alloc (Nat.le_refl _) _).alloc (by simp) _⟩
set_option maxRecDepth 100000 in
set_option maxHeartbeats 4000000 in
theorem refstep_bad (s : Sh.St) (n : Nat) (A : Option Addr) (c : Nat) (w : World) (hn : n ≠ 64) :
    Calls Try.prog 33 #[.agg (wcells (Sh.stL s)).toArray, .slice A n c] w fun e w' => e = .returned (.tuple #[.agg (wcells (List.replicate 8 0)).toArray, .int .i64 1]) ∧ Below w.heap.size w w' := by
  have hne : ((n : Int) != 64) = true := by rw [bne_iff_ne]; omega
  have HS : Hid ((wcells (Sh.stL s)).toArray = #[.int .u32 (s.a.toNat : Int), .int .u32 (s.b.toNat : Int), .int .u32 (s.c.toNat : Int), .int .u32 (s.d.toNat : Int), .int .u32 (s.e.toNat : Int), .int .u32 (s.f.toNat : Int), .int .u32 (s.g.toNat : Int), .int .u32 (s.h.toNat : Int)]) := rfl
  rw [HS.out, ← zero8]
  clear hn
  go_enter Try.func33, Try.ntmps33
  go_wp2_with fail
  exact bodyPost_ret (v := .tuple #[.agg #[.int .u32 0, .int .u32 0, .int .u32 0, .int .u32 0, .int .u32 0, .int .u32 0, .int .u32 0, .int .u32 0], .int .i64 1]) (results_row_tmp (P := Try.prog) (d := .array 8 42) rfl _ _ (w.heap.size + 1) _ _ _ _ rfl (heap_alloc2_new _ _ _) (by kernel_rfl) rfl (by kernel_rfl) rfl) rfl ⟨rfl, ((Below.refl _ _).alloc (Nat.le_refl _) _).alloc (by simp) _⟩
end Go.Proofs.Ytofjfpnkdcpngaa
