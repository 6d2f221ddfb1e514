/-
  The state behind a block, by the reference; and what is no block, by both.
  The drawn statement of the reference's Sum: a block's step, whatever the order.
  The sum of bytes, by the reference.
-/
import Derived.Test.YtjhopgmionpkoaaSha3
import Derived.Test.YtjhopgmionpkoaaSha4
import Derived.Test.YtjhopgmionpkoaaRgn
import Derived.Test.YtjhopgmionpkoaaSha5
namespace Go.Proofs.Ytjhopgmionpkoaa
set_option maxRecDepth 20000
open Go.RowKit Mem

theorem u_sub (x : UInt32) : (4294967295 : Int) - (x.toNat : Int) = ((4294967295 - x).toNat : Int) := by
  have hx := x.toNat_lt
  have h : (4294967295 - x).toNat = 4294967295 - x.toNat := by
    rw [UInt32.toNat_sub_of_le _ _ (by rw [UInt32.le_iff_toNat_le]; show x.toNat ≤ 4294967295; omega)]
    rfl
  rw [h]
  omega
theorem e_t1r (st : Sh.St) (kw ww : UInt32) : ((st.h.toNat : Int) + bits .xor .u32 (bits .xor .u32 ((Sh.ror 6 st.e).toNat : Int) ((Sh.ror 11 st.e).toNat : Int)) ((Sh.ror 25 st.e).toNat : Int) +
    bits .or .u32 (bits .and .u32 (st.e.toNat : Int) (st.f.toNat : Int)) (bits .and .u32 (4294967295 - (st.e.toNat : Int)) (st.g.toNat : Int)) + (kw.toNat : Int) + (ww.toNat : Int)) % 4294967296 = ((Sh.t1 st kw ww).toNat : Int) := by
  unfold Sh.t1
  rw [Sh.ch_or]
  simp only [u_sub, u_xor, u_and, u_or, UInt32.toNat_add]
  omega
theorem e_t1r2 (st : Sh.St) (kw ww : UInt32) : (((st.h.toNat : Int) + bits .xor .u32 (bits .xor .u32 ((Sh.ror 6 st.e).toNat : Int) ((Sh.ror 11 st.e).toNat : Int)) ((Sh.ror 25 st.e).toNat : Int) +
    bits .or .u32 (bits .and .u32 (st.e.toNat : Int) (st.f.toNat : Int)) (bits .and .u32 (4294967295 - (st.e.toNat : Int)) (st.g.toNat : Int)) + (kw.toNat : Int)) % 4294967296 + (ww.toNat : Int)) % 4294967296 = ((Sh.t1 st kw ww).toNat : Int) := by
  have := e_t1r st kw ww
  omega
theorem e_t2r (st : Sh.St) : (bits .xor .u32 (bits .xor .u32 ((Sh.ror 2 st.a).toNat : Int) ((Sh.ror 13 st.a).toNat : Int)) ((Sh.ror 22 st.a).toNat : Int) +
    bits .or .u32 (bits .or .u32 (bits .and .u32 (st.a.toNat : Int) (st.b.toNat : Int)) (bits .and .u32 (st.a.toNat : Int) (st.c.toNat : Int))) (bits .and .u32 (st.b.toNat : Int) (st.c.toNat : Int))) % 4294967296 = ((Sh.t2 st).toNat : Int) := by
  unfold Sh.t2
  rw [Sh.maj_or]
  simp only [u_xor, u_and, u_or, UInt32.toNat_add]
  omega
theorem built8 (n0 n1 n2 n3 n4 n5 n6 n7 : Int) : Try.prog.built 117 [(0, .int .u32 n0), (1, .int .u32 n1), (2, .int .u32 n2), (3, .int .u32 n3), (4, .int .u32 n4), (5, .int .u32 n5), (6, .int .u32 n6), (7, .int .u32 n7)] =
    some #[.int .u32 n0, .int .u32 n1, .int .u32 n2, .int .u32 n3, .int .u32 n4, .int .u32 n5, .int .u32 n6, .int .u32 n7] := by kernel_rfl
theorem zero8 : (#[.int .u32 0, .int .u32 0, .int .u32 0, .int .u32 0, .int .u32 0, .int .u32 0, .int .u32 0, .int .u32 0] : Array Value) = (wcells (List.replicate 8 0)).toArray := by kernel_rfl
set_option maxRecDepth 100000 in
set_option maxHeartbeats 40000000 in
theorem refstep_aux (s fin : Sh.St) (b : List UInt8) (A : Option Addr) (c : Nat) (w : World) (hA : BytesAt w A b) (hl : b.length = 64) (HFIN : Hid (Sh.step s b = fin)) :
    Calls Try.prog 102 #[.agg (wcells (Sh.stL s)).toArray, .slice A 64 c] w fun e w' => e = .returned (.tuple #[.agg (wcells (Sh.stL fin)).toArray, .int .i64 0]) ∧ Below w.heap.size w w' := by
  have HA := Lib.hid hA
  have HL := Lib.hid hl
  clear hA hl
  have HS : Hid ((wcells (Sh.stL s)).toArray = #[.int .u32 (s.a.toNat : Int), .int .u32 (s.b.toNat : Int), .int .u32 (s.c.toNat : Int), .int .u32 (s.d.toNat : Int), .int .u32 (s.e.toNat : Int), .int .u32 (s.f.toNat : Int), .int .u32 (s.g.toNat : Int), .int .u32 (s.h.toNat : Int)]) := rfl
  rw [HS.out]
  go_enter Try.func102, Try.ntmps102
  go_upto_region 3 with fail
  rw [← HS.out]
  obtain ⟨W0, hW0⟩ : ∃ W0, W0 = (w.alloc (.cells (wcells (Sh.stL s)).toArray 117)).alloc (.cells #[.int .u32 0, .int .u32 0, .int .u32 0, .int .u32 0, .int .u32 0, .int .u32 0, .int .u32 0, .int .u32 0] 117) := ⟨_, rfl⟩
  have HB0 : Hid (W0.heap[w.heap.size]? = some (.cells (wcells (Sh.stL s)).toArray 117 (0, 0))) := by rw [hW0]; exact heap_alloc2_old _ _ _
  have HB1 : Hid (W0.heap[w.heap.size + 1]? = some (.cells #[.int .u32 0, .int .u32 0, .int .u32 0, .int .u32 0, .int .u32 0, .int .u32 0, .int .u32 0, .int .u32 0] 117 (0, 0))) := by rw [hW0]; exact heap_alloc2_new _ _ _
  have HZ0 : Hid (W0.heap.size = w.heap.size + 2) := by rw [hW0]; simp [RowKit.Hid]
  have HBW : Hid (Below w.heap.size w W0) := by rw [hW0]; exact ((Below.refl _ _).alloc (Nat.le_refl _) _).alloc (by simp) _
  rw [← hW0]
  clear hW0
  go_wp2_with fail
  refine (refwords b A c W0 (HA.out.below HBW.out (Nat.le_refl _)) HL.out).mono ?_
  rintro e w1 ⟨gw, cw, rfl, how, hb1⟩
  have HOW := Lib.hid how
  have HC1 := Lib.hid hb1
  clear how hb1
  go_wp2_with fail
  refine (refks _).mono ?_
  rintro e w2 ⟨rfl, hb2⟩
  have HOW2 := Lib.hid (own_below HOW.out hb2)
  have HC2 := Lib.hid (HC1.out.trans (hb2.mono HC1.out.size))
  have hi64 : (Try.prog.info? 127).map (·.size) = some 64 := by kernel_rfl
  have hi8 : (Try.prog.info? 117).map (·.size) = some 8 := by kernel_rfl
  have HI64 := Lib.hid hi64
  have HI8 := Lib.hid hi8
  have HK64 : Hid ((wcells Sh.ks).toArray.size = 64) := by unfold RowKit.Hid; rw [List.size_toArray, wcells_length, Sh.ks_length]
  have HS8 : Hid ((wcells (Sh.stL s)).toArray.size = 8) := by unfold RowKit.Hid; rw [List.size_toArray, wcells_length, stL_len]
  clear hb2 hi64 hi8
  go_upto_region 5 with (refine wpList_store_row rfl 127 (.tmp 7) (.tmp 23) rfl w2.heap.size (wcells Sh.ks).toArray rfl rfl _ _ (heap_alloc_new _ _) (by rw [HI64.out, HK64.out]) (by rw [HK64.out]; rfl) (wcells_one _) ?_)
  obtain ⟨W3, hW3⟩ : ∃ W3, W3 = (w2.alloc (.cells (Array.replicate 64 (.int .u32 0)) 127)).setRow w2.heap.size (wcells Sh.ks).toArray := ⟨_, rfl⟩
  have H7 : Hid (W3.heap[w2.heap.size]? = some (.cells (wcells Sh.ks).toArray 127 (0, 0))) := by rw [hW3]; exact setRow_heap _ _ _ _ _ _ (heap_alloc_new _ _)
  have HC3 : Hid (Below w2.heap.size w2 W3) := by rw [hW3]; exact below_setRow ((Below.refl _ _).alloc (Nat.le_refl _) _) (Nat.le_refl _)
  refine wp_congr_world (W1 := W3) hW3 ?_
  clear hW3
  have HOW3 := Lib.hid (own_below HOW2.out HC3.out)
  have HC4 := Lib.hid (HC2.out.trans (HC3.out.mono HC2.out.size))
  have HV : Hid (W3.heap[w.heap.size]? = some (.cells (wcells (Sh.stL s)).toArray 117 (0, 0))) := (HC4.out.block _ (by have := HZ0.out; omega)).trans HB0.out
  have HL6 : Hid ((Sh.sched b 64).length = 64) := Sh.sched_length b 64
  have HL7 : Hid (Sh.ks.length = 64) := Sh.ks_length
  have HR0 : Hid (∀ k, Sh.rnds b (k + 1) s = Sh.rnd (Sh.rnds b k s) (Sh.ks.getD k 0) ((Sh.sched b 64).getD k 0)) := fun k => rfl
  clear HOW HOW2 HC1 HC3
  generalize Sh.sched b 64 = ws at *
  generalize Sh.ks = kl at *
  have HSt : Hid (Sh.rnds b 0 s = s) := rfl
  generalize hrr : (fun k => Sh.rnds b k s) = rr at *
  have hr0 : ∀ k, Sh.rnds b k s = rr k := fun k => by rw [← hrr]
  rw [hr0] at HSt
  simp only [hr0] at HR0
  have HRR := Lib.hid hr0
  clear hrr hr0
  go_wp2_with (first
    | refine wpList_load_row rfl 117 (.tmp 2) rfl w.heap.size rfl _ _ _ (.array 8 22) HV.out (by kernel_rfl) rfl (by rw [HI8.out, HS8.out]) ?_
    | refine wpList_store_row rfl 117 (.tmp 8) (.tmp 24) rfl W3.heap.size (wcells (Sh.stL s)).toArray rfl rfl _ _ (heap_alloc_new _ _) (by rw [HI8.out, HS8.out]) (by rw [HS8.out]; rfl) (wcells_one _) ?_)
  have HG8 : Hid (((W3.alloc (.cells #[.int .u32 0, .int .u32 0, .int .u32 0, .int .u32 0, .int .u32 0, .int .u32 0, .int .u32 0, .int .u32 0] 117)).setRow W3.heap.size (wcells (Sh.stL s)).toArray).heap[W3.heap.size]? = some (.cells (wcells (Sh.stL (rr 0))).toArray 117 (0, 0))) := by
    rw [HSt.out]; exact setRow_heap _ _ _ _ _ _ (heap_alloc_new _ _)
  have HGB : Hid (Below W3.heap.size W3 ((W3.alloc (.cells #[.int .u32 0, .int .u32 0, .int .u32 0, .int .u32 0, .int .u32 0, .int .u32 0, .int .u32 0, .int .u32 0] 117)).setRow W3.heap.size (wcells (Sh.stL s)).toArray)) := below_setRow ((Below.refl _ _).alloc (Nat.le_refl _) _) (Nat.le_refl _)
  have HK2 : Hid (w2.heap.size < W3.heap.size) := (Array.getElem?_eq_some_iff.1 H7.out).1
  go_loopw [9] (fun i wr => ∃ k : Nat, k ≤ 64 ∧ i = .int .i64 k ∧ Hid (wr.heap[W3.heap.size]? = some (.cells (wcells (Sh.stL (rr k))).toArray 117 (0, 0))) ∧ Hid (Below W3.heap.size W3 wr)) (fun i _ => 64 - (intOf i).toNat)
  case atStart => exact ⟨0, by omega, rfl, HG8, HGB⟩
  case round =>
    obtain ⟨k, hk, rfl, h8, hB⟩ := hrel
    by_cases hlt : k < 64
    · as_aux_lemma =>
        have hk6 : k < ws.length := by rw [HL6.out]; exact hlt
        have hk7 : k < kl.length := by rw [HL7.out]; exact hlt
        have cw6 := own_at (own_below HOW3.out hB.out) hk6
        have ck : wr.cell? ⟨w2.heap.size, k, none⟩ = some (.int .u32 (((kl[k]'hk7).toNat : Nat) : Int)) := by
          rw [cell_of_row wr w2.heap.size k _ _ (0, 0) ((hB.out.block _ HK2.out).trans H7.out), List.getElem?_toArray]; exact wcells_at _ k hk7
        have HR : Hid (rr (k + 1) = Sh.rnd (rr k) (kl[k]'hk7) (ws[k]'hk6)) := by
          have := HR0.out k
          rw [List.getD_eq_getElem?_getD, List.getD_eq_getElem?_getD, List.getElem?_eq_getElem hk6, List.getElem?_eq_getElem hk7] at this
          exact this
        generalize ws[k]'hk6 = ww at *
        generalize kl[k]'hk7 = kw at *
        generalize hst : rr k = st at *
        obtain ⟨v0, v1, v2, v3, v4, v5, v6, v7, _, _, _, _, _, _, _, _⟩ := row8 h8.out
        have HBn : Hid (∀ n, Below W3.heap.size W3 (wr.drewN n)) := fun n => below_drewN hB.out n
        have HH : Hid (∀ n, (wr.drewN n).heap[W3.heap.size]? = some (.cells (wcells (Sh.stL st)).toArray 117 (0, 0))) := fun n => h8.out
        have HST8 : Hid ((wcells (Sh.stL st)).toArray.size = 8) := by unfold RowKit.Hid; rw [List.size_toArray, wcells_length, stL_len]
        have r0 : (0 : Int) ≤ k := by omega
        have r1 : (k : Int) < 64 := by omega
        have e0 : (0 : Int) ≤ (st.e.toNat : Int) := by omega
        have e1 : (st.e.toNat : Int) ≤ 4294967295 := by have := st.e.toNat_lt; omega
        clear hk6 hk7 hst h8 hB
        go_upto_region 13 with fail
        clear e0 e1
        go_cut [14] from 58 to 80 (fun s14 wx => s14 = .int .u32 ((Sh.t1 st kw ww).toNat : Int) ∧ Hid (wx.heap[W3.heap.size]? = some (.cells (wcells (Sh.stL st)).toArray 117 (0, 0))) ∧ Hid (Below W3.heap.size W3 wx))
        case first =>
          go_quiet ((go_at_call 109; exact Calls.quiet_of_same (same_right5 (refturnedI _ _ (by decide) (by decide) _))))
          first | rw [e_t1r] | rw [e_t1r2]
          go_wp2_with fail
          go_meet
          exact ⟨rfl, HH.out _, HBn.out _⟩
        case rest =>
        obtain ⟨rfl, h8c, hBc⟩ := hcut
        generalize hT1 : Sh.t1 st kw ww = T1 at *
        have HT1 := Lib.hid hT1
        clear hT1 v0 v1 v2 v3 v4 v5 v6 v7 cw6 ck
        obtain ⟨v0, v1, v2, v3, v4, v5, v6, v7, _, _, _, _, _, _, _, _⟩ := row8 h8c.out
        have HX : Hid (∀ (cs : Array Value), (wc.setRow W3.heap.size cs).heap[W3.heap.size]? = some (.cells cs 117 (0, 0)) ∧ Below W3.heap.size W3 (wc.setRow W3.heap.size cs)) := fun cs => ⟨setRow_heap _ _ _ _ _ _ h8c.out, below_setRow hBc.out (Nat.le_refl _)⟩
        go_upto_region 15 with (go_at_call 109; refine (refturnedI _ _ (by decide) (by decide) _).mono ?_; rintro e w' ⟨rfl, rfl⟩)
        rw [e_t2r]
        generalize hT2 : Sh.t2 st = T2 at *
        have HT2 := Lib.hid hT2
        clear hT2
        have hE : (#[.int .u32 (((T1.toNat : Int) + (T2.toNat : Int)) % 4294967296), .int .u32 (st.a.toNat : Int), .int .u32 (st.b.toNat : Int), .int .u32 (st.c.toNat : Int), .int .u32 (((st.d.toNat : Int) + (T1.toNat : Int)) % 4294967296), .int .u32 (st.e.toNat : Int), .int .u32 (st.f.toNat : Int), .int .u32 (st.g.toNat : Int)] : Array Value) = (wcells (Sh.stL (rr (k + 1)))).toArray := by
          rw [HR.out]
          unfold Sh.rnd
          rw [HT1.out, HT2.out, u_add, u_add]
          rfl
        have HE := Lib.hid hE
        have HE1 : Hid ((#[.int .u32 (((T1.toNat : Int) + (T2.toNat : Int)) % 4294967296), .int .u32 (st.a.toNat : Int), .int .u32 (st.b.toNat : Int), .int .u32 (st.c.toNat : Int), .int .u32 (((st.d.toNat : Int) + (T1.toNat : Int)) % 4294967296), .int .u32 (st.e.toNat : Int), .int .u32 (st.f.toNat : Int), .int .u32 (st.g.toNat : Int)] : Array Value).all (·.oneCell') = true) := by unfold RowKit.Hid; rw [hE]; exact wcells_one _
        clear hE
        go_wp2_with (first
          | ((with_reducible show wpList _ _ _ (Oper.mk _ (Op.build _ _) _ _ _ _ :: _) _ _); refine wpList_build_to rfl 117 _ rfl #[.int .u32 (((T1.toNat : Int) + (T2.toNat : Int)) % 4294967296), .int .u32 (st.a.toNat : Int), .int .u32 (st.b.toNat : Int), .int .u32 (st.c.toNat : Int), .int .u32 (((st.d.toNat : Int) + (T1.toNat : Int)) % 4294967296), .int .u32 (st.e.toNat : Int), .int .u32 (st.f.toNat : Int), .int .u32 (st.g.toNat : Int)] ((congrArg (Program.built _ _) (by simp only [List.map_toArray, List.map_cons, List.map_nil]; rfl)).trans (built8 _ _ _ _ _ _ _ _)) ?_)
          | ((with_reducible show wpList _ _ _ (Oper.mk _ (Op.store _ _ _) _ _ _ _ :: _) _ _); refine wpList_store_row rfl 117 (.tmp 8) (.tmp 109) rfl W3.heap.size _ rfl rfl _ _ h8c.out (by rw [HI8.out]; rfl) (by rw [HST8.out]; rfl) HE1.out ?_))
        go_roundw
        case rel =>
          refine ⟨k + 1, by omega, by go_num, ?_, (HX.out _).2⟩
          unfold RowKit.Hid
          rw [← HE.out]
          exact (HX.out _).1
        case measure => simp [intOf]; omega
    · obtain rfl : k = 64 := by omega
      rw [show ((64 : Nat) : Int) = 64 from rfl]
      have HP : Hid (fin = Sh.plus s (rr 64)) := by
        unfold RowKit.Hid
        rw [← HFIN.out]
        unfold Sh.step
        rw [HRR.out]
      clear HFIN HRR
      generalize rr 64 = vv at *
      clear HR0 HSt HG8 HGB HL6 HL7 HOW3 H7
      have h8' : Hid (wr.heap[W3.heap.size]? = some (.cells (wcells (addTo (Sh.stL s) (Sh.stL vv) 0)).toArray 117 (0, 0))) := h8
      have hlt3 : Hid (w.heap.size + 1 < W3.heap.size) := by have := HC4.out.size; have := HZ0.out; unfold RowKit.Hid; omega
      go_wp2_with fail
      go_loopw [16] (fun i wq => ∃ k : Nat, k ≤ 8 ∧ i = .int .i64 k ∧ Hid (wq.heap[W3.heap.size]? = some (.cells (wcells (addTo (Sh.stL s) (Sh.stL vv) k)).toArray 117 (0, 0))) ∧ Hid (Below W3.heap.size W3 wq)) (fun i _ => 8 - (intOf i).toNat)
      case atStart => exact ⟨0, by omega, rfl, h8', hB⟩
      case round =>
        obtain ⟨k, hk, rfl, hg, hB⟩ := hrel
        by_cases hlt : k < 8
        · as_aux_lemma =>
            obtain ⟨x, y, hx, hy, hxy⟩ := addTo_step s vv k hlt
            have c1 := (cell_of_row wr W3.heap.size k _ _ (0, 0) hg.out).trans (wcells_get hx)
            have f1 := frozen_of_row wr W3.heap.size k _ _ hg.out
            have c2 := (cell_of_row wr w.heap.size k _ _ (0, 0) ((hB.out.block _ (by have := hlt3.out; omega)).trans HV.out)).trans (wcells_get hy)
            have HN : Hid (∀ n, ((wr.drewN n).setCell ⟨W3.heap.size, k, none⟩ (.int .u32 ((x + y).toNat : Int))).heap[W3.heap.size]? = some (.cells (wcells (addTo (Sh.stL s) (Sh.stL vv) (k + 1))).toArray 117 (0, 0))) := fun n => by
              have := heap_setCell_same (wr.drewN n) W3.heap.size k _ _ (.int .u32 ((x + y).toNat : Int)) hg.out
              rw [wcells_set, hxy] at this
              exact this
            have HNB : Hid (∀ n u, Below W3.heap.size W3 ((wr.drewN n).setCell ⟨W3.heap.size, k, none⟩ u)) := fun n u => (below_drewN hB.out n).setCell (Nat.le_refl _) u
            have r0 : (0 : Int) ≤ k := by omega
            have r1 : (k : Int) < 8 := by omega
            clear hx hy hxy
            go_wp2_with fail
            go_still_tail 9, (by kernel_rfl)
            change wpList _ _ _ _ _ wr.drew
            go_wp2_with fail
            rw [u_add]
            have HN1 := Lib.hid (HN.out 1)
            have HB1 := Lib.hid (HNB.out 1 (.int .u32 ((x + y).toNat : Int)))
            go_roundw
            case rel => exact ⟨k + 1, by omega, by go_num, HN1, HB1⟩
            case measure => simp [intOf]; omega
        · as_aux_lemma =>
            obtain rfl : k = 8 := by omega
            have hlast : addTo (Sh.stL s) (Sh.stL vv) 8 = Sh.stL (Sh.plus s vv) := rfl
            rw [hlast, ← HP.out] at hg
            have HR1 := Lib.hid ((hB.out.block _ hlt3.out).trans ((HC4.out.block _ (by have := HZ0.out; omega)).trans HB1.out))
            have HSF : Hid ((wcells (Sh.stL fin)).toArray.size = 8) := by unfold RowKit.Hid; rw [List.size_toArray, wcells_length, stL_len]
            clear hlast HP HB0 HS
            go_wp2_with (first
              | refine wpList_load_row rfl 117 (.tmp 8) rfl W3.heap.size rfl _ _ _ (.array 8 22) hg.out (by kernel_rfl) rfl (by rw [HI8.out, HSF.out]) ?_
              | refine wpList_store_row rfl 117 (.tmp 4) (.tmp 123) rfl (w.heap.size + 1) (wcells (Sh.stL fin)).toArray rfl rfl _ _ HR1.out (by rw [HI8.out, HSF.out]) (by rw [HSF.out]; rfl) (wcells_one _) ?_)
            exact bodyPost_ret (v := .tuple #[.agg (wcells (Sh.stL fin)).toArray, .int .i64 0]) (results_row_tmp (P := Try.prog) (d := .array 8 22) rfl _ _ (w.heap.size + 1) _ _ _ _ rfl (setRow_heap _ _ _ _ _ _ HR1.out) (by kernel_rfl) rfl (by rw [HI8.out, HSF.out]) rfl) rfl ⟨rfl, below_setRow ((HBW.out.trans (HC4.out.mono (by have := HZ0.out; omega))).trans (hB.out.mono (by have := hlt3.out; omega))) (by omega)⟩
theorem refstep_ok (s : Sh.St) (b : List UInt8) (A : Option Addr) (c : Nat) (w : World) (hA : BytesAt w A b) (hl : b.length = 64) :
    Calls Try.prog 102 #[.agg (wcells (Sh.stL s)).toArray, .slice A 64 c] w fun e w' => e = .returned (.tuple #[.agg (wcells (Sh.stL (Sh.step s b))).toArray, .int .i64 0]) ∧ Below w.heap.size w w' :=
  refstep_aux s _ b A c w hA hl rfl
set_option maxRecDepth 100000 in
set_option maxHeartbeats 4000000 in
theorem shastep_bad (s : Sh.St) (n : Nat) (A : Option Addr) (c : Nat) (w : World) (hn : n ≠ 64) :
    Calls Try.prog 99 #[.agg (wcells (Sh.stL s)).toArray, .slice A n c] w fun e w' => e = .returned (.tuple #[.agg (wcells (List.replicate 8 0)).toArray, .int .i64 1]) ∧ Below w.heap.size w w' := by
  have hne : ((n : Int) != 64) = true := by rw [bne_iff_ne]; omega
  have HS : Hid ((wcells (Sh.stL s)).toArray = #[.int .u32 (s.a.toNat : Int), .int .u32 (s.b.toNat : Int), .int .u32 (s.c.toNat : Int), .int .u32 (s.d.toNat : Int), .int .u32 (s.e.toNat : Int), .int .u32 (s.f.toNat : Int), .int .u32 (s.g.toNat : Int), .int .u32 (s.h.toNat : Int)]) := rfl
  rw [HS.out, ← zero8]
  clear hn
  go_enter Try.func99, Try.ntmps99
  go_wp2_with fail
  exact bodyPost_ret (v := .tuple #[.agg #[.int .u32 0, .int .u32 0, .int .u32 0, .int .u32 0, .int .u32 0, .int .u32 0, .int .u32 0, .int .u32 0], .int .i64 1]) (results_row_tmp (P := Try.prog) (d := .array 8 22) rfl _ _ (w.heap.size + 1) _ _ _ _ rfl (heap_alloc2_new _ _ _) (by kernel_rfl) rfl (by kernel_rfl) rfl) rfl ⟨rfl, ((Below.refl _ _).alloc (Nat.le_refl _) _).alloc (by simp) _⟩
set_option maxRecDepth 100000 in
set_option maxHeartbeats 4000000 in
theorem refstep_bad (s : Sh.St) (n : Nat) (A : Option Addr) (c : Nat) (w : World) (hn : n ≠ 64) :
    Calls Try.prog 102 #[.agg (wcells (Sh.stL s)).toArray, .slice A n c] w fun e w' => e = .returned (.tuple #[.agg (wcells (List.replicate 8 0)).toArray, .int .i64 1]) ∧ Below w.heap.size w w' := by
  have hne : ((n : Int) != 64) = true := by rw [bne_iff_ne]; omega
  have HS : Hid ((wcells (Sh.stL s)).toArray = #[.int .u32 (s.a.toNat : Int), .int .u32 (s.b.toNat : Int), .int .u32 (s.c.toNat : Int), .int .u32 (s.d.toNat : Int), .int .u32 (s.e.toNat : Int), .int .u32 (s.f.toNat : Int), .int .u32 (s.g.toNat : Int), .int .u32 (s.h.toNat : Int)]) := rfl
  rw [HS.out, ← zero8]
  clear hn
  go_enter Try.func102, Try.ntmps102
  go_wp2_with fail
  exact bodyPost_ret (v := .tuple #[.agg #[.int .u32 0, .int .u32 0, .int .u32 0, .int .u32 0, .int .u32 0, .int .u32 0, .int .u32 0, .int .u32 0], .int .i64 1]) (results_row_tmp (P := Try.prog) (d := .array 8 22) rfl _ _ (w.heap.size + 1) _ _ _ _ rfl (heap_alloc2_new _ _ _) (by kernel_rfl) rfl (by kernel_rfl) rfl) rfl ⟨rfl, ((Below.refl _ _).alloc (Nat.le_refl _) _).alloc (by simp) _⟩
end Go.Proofs.Ytjhopgmionpkoaa
namespace Go.Proofs.Ytjhopgmionpkoaa
set_option maxRecDepth 20000
open Go.RowKit Mem

set_option linter.unusedVariables false
noncomputable def rsumOps : Array Oper := findOps 9 ((Try.f96).body.getD (.exit 0))
def rsumSlots : List (Nat × Nat) := [(0, 32), (1, 33), (2, 34), (3, 35), (4, 36), (5, 37), (6, 38), (7, 31), (8, 39), (9, 40), (12, 9)]
def rsumVal (sl v : List UInt32) (A A1 : Option Addr) (n c c1 k : Nat) : Nat → Value
  | 0 => .agg (wcells sl).toArray
  | 1 => .slice A n c
  | 2 => .int .i64 (64 * (k : Int))
  | 3 => .int .i64 (64 * (k : Int))
  | 4 => .int .i64 (64 * (k : Int) + 64)
  | 5 => .slice A1 64 c1
  | 6 => .tuple #[.agg (wcells v).toArray, .int .i64 0]
  | 7 => .tuple #[.agg (wcells v).toArray, .int .i64 0]
  | 8 => .agg (wcells v).toArray
  | 9 => .int .i64 0
  | _ => .int .i64 0
theorem rsumRegion {Q : Exit → Act → World → Prop} (a0 : Act) (W0 : World) (hs : 40 < a0.tmps.size) (sl v : List UInt32) (hs8 : sl.length = 8) (hv8 : v.length = 8) (A A1 : Option Addr) (n c c1 g k : Nat) (hstep : ∀ W, Below W0.heap.size W0 W → Calls Try.prog 102 #[.agg (wcells sl).toArray, .slice A1 64 c1] W fun e w' => e = .returned (.tuple #[.agg (wcells v).toArray, .int .i64 0]) ∧ Below W.heap.size W w') (hsl : ∀ wx, (Instr.slice 31 (.slice A n c) (some (.int .i64 (64 * (k : Int)))) (some (.int .i64 (64 * (k : Int) + 64))) none).run Try.prog wx = .ok (.slice A1 64 c1) wx) (hk : IntKind.i64.wrap (64 * (k : Int) + 64) = 64 * (k : Int) + 64) (hr : W0.heap[g]? = some (.cells (wcells sl).toArray 117 (0, 0)))
    (e5 : a0.eval (.tmp 5) = .slice A n c)
    (e6 : a0.eval (.tmp 6) = .pointer (some ⟨g, 0, none⟩))
    (e7 : a0.eval (.tmp 7) = .int .i64 (64 * (k : Int)))
    (hQ : ∀ w g, Below W0.heap.size W0 w → W0.heap.size ≤ g → w.heap[g]? = some (.cells (wcells v).toArray 117 (0, 0)) → Q .normal (rsumSlots.foldl (fun x p => x.put (some p.2) ((rsumVal sl v A A1 n c c1 k) p.1)) (a0.put (some 8) (.pointer (some ⟨g, 0, none⟩)))) w) :
    wpAny Try.prog .any rsumOps Q 13 (Array.replicate 13 false) a0 W0.drew := by
  have ok : slotsOk (ownMade rsumSlots 8) rsumSlots 10 8 11 a0.tmps.size = true := by
    have : ∀ z, 40 < z → slotsOk (ownMade rsumSlots 8) rsumSlots 10 8 11 z = true := by
      intro z hz
      simp [slotsOk, ownMade, rsumSlots]
      omega
    exact this _ hs
  have hi8 : (Try.prog.info? 117).map (·.size) = some 8 := by kernel_rfl
  have hvs : (wcells v).toArray.size = 8 := by rw [List.size_toArray, wcells_length, hv8]
  have hgl : g < W0.heap.size := (Array.getElem?_eq_some_iff.1 hr).1
  refine region_made (by kernel_rfl) W0 a0 rsumSlots (rsumVal sl v A A1 n c c1 k) 10 8 11 8 39 117 117 (Array.replicate 8 (.int .u32 0)) (wcells v).toArray ok (by kernel_rfl) 13 (by kernel_rfl) (by decide) (by decide) ⟨_, rfl, rfl, rfl, rfl⟩ alloc23 ⟨_, rfl, rfl, rfl, rfl⟩ (by decide) rfl (by rw [hi8, hvs]) (by rw [hvs]; rfl) (wcells_one _) (by kernel_rfl) (by kernel_rfl) ?_ hQ
  intro i L a w h hi hn1 hn2 hneed
  rcases (show i = 0 ∨ i = 1 ∨ i = 2 ∨ i = 3 ∨ i = 4 ∨ i = 5 ∨ i = 6 ∨ i = 7 ∨ i = 8 ∨ i = 9 ∨ i = 12 by omega) with rfl | rfl | rfl | rfl | rfl | rfl | rfl | rfl | rfl | rfl | rfl
  · exact fix_value (i := 0) (d := 32) rfl (wanted_none rfl) rfl (by decide) (x_load_row (d := .array 8 22) rfl ((h.old rfl).trans e6) ((h.below.block _ hgl).trans hr) (by kernel_rfl) rfl hi8 (by rw [wcells_length, hs8]))
  · exact fix_value (i := 1) (d := 33) rfl (wanted_none rfl) rfl (by decide) (x_move rfl ((h.old rfl).trans e5))
  · exact fix_value (i := 2) (d := 34) rfl (wanted_none rfl) rfl (by decide) (x_move rfl ((h.old rfl).trans e7))
  · exact fix_value (i := 3) (d := 35) rfl (wanted_none rfl) rfl (by decide) (x_move rfl ((h.old rfl).trans e7))
  · exact fix_value (i := 4) (d := 36) rfl (wanted_none rfl) rfl (by decide) (x_add rfl (h.get 3 35 (by decide) (hneed 3 (by kernel_rfl))) rfl hk)
  · exact fix_value (i := 5) (d := 37) rfl (wanted_none rfl) rfl (by decide) (x_slice rfl (by kernel_rfl) (h.get 1 33 (by decide) (hneed 1 (by kernel_rfl))) (congrArg some (h.get 2 34 (by decide) (hneed 2 (by kernel_rfl)))) (congrArg some (h.get 4 36 (by decide) (hneed 4 (by kernel_rfl)))) (hsl w))
  · refine fix_call (i := 6) (d := 38) 102 Try.f102 #[.tmp 32, .tmp 37] _ #[.agg (wcells sl).toArray, .slice A1 64 c1] rfl (wanted_none rfl) rfl (by decide) rfl (by simp [(h.get 0 32 (by decide) (hneed 0 (by kernel_rfl))), (h.get 5 37 (by decide) (hneed 5 (by kernel_rfl))), rsumVal]) Try.func102 (by kernel_rfl) (by kernel_rfl) ?_
    exact hstep w h.below
  · exact fix_value (i := 7) (d := 31) rfl (wanted_none rfl) rfl (by decide) (x_move rfl (h.get 6 38 (by decide) (hneed 6 (by kernel_rfl))))
  · exact fix_value (i := 8) (d := 39) rfl (wanted_none rfl) rfl (by decide) (x_extract rfl (h.get 7 31 (by decide) (hneed 7 (by kernel_rfl))) rfl)
  · exact fix_value (i := 9) (d := 40) rfl (wanted_none rfl) rfl (by decide) (x_extract rfl (h.get 7 31 (by decide) (hneed 7 (by kernel_rfl))) rfl)
  · exact fix_value (i := 12) (d := 9) rfl (wanted_none rfl) rfl (by decide) (x_assign rfl (h.get 9 40 (by decide) (hneed 9 (by kernel_rfl))))
end Go.Proofs.Ytjhopgmionpkoaa
namespace Go.Proofs.Ytjhopgmionpkoaa
set_option maxRecDepth 20000
open Go.RowKit Mem

theorem setZ_head (s : Sh.St) (x y : List UInt8) (n : Nat) (hx : 64 * n ≤ x.length) : setZ s (x ++ y) n = setZ s x n := by
  induction n with
  | zero => rfl
  | succ n ih =>
    rw [setZ, setZ, ih (by omega), List.drop_append_of_le_length (by omega), List.take_append_of_le_length (by rw [List.length_drop]; omega)]
theorem setZ_append (s : Sh.St) (x y : List UInt8) (n : Nat) (hx : x.length = 64 * n) : ∀ m, setZ s (x ++ y) (n + m) = setZ (setZ s x n) y m
  | 0 => by rw [Nat.add_zero, setZ_head s x y n (by omega)]; rfl
  | m + 1 => by
    have ih := setZ_append s x y n hx m
    rw [show n + (m + 1) = (n + m) + 1 by omega, setZ, setZ, ih, List.drop_append, List.drop_of_length_le (by omega), List.nil_append, show 64 * (n + m) - x.length = 64 * m by omega]
def allOf (b : List UInt8) : List UInt8 := b ++ padOf b.length
theorem padOf_length (n : Nat) : (padOf n).length = zeros n + 9 := by unfold padOf; simp [be8_len]
theorem allOf_len (b : List UInt8) : (allOf b).length % 64 = 0 := by
  unfold allOf
  rw [List.length_append, padOf_length]
  unfold zeros
  omega
theorem allOf_end (b : List UInt8) : setZ Sh.first (allOf b) ((allOf b).length / 64) = endSt b := by
  have h1 : allOf b = b.take (b.length / 64 * 64) ++ tailOf b := by
    unfold allOf tailOf
    rw [← List.append_assoc, List.take_append_drop]
  have h2 : (b.take (b.length / 64 * 64)).length = 64 * (b.length / 64) := by rw [List.length_take]; omega
  have h3 : (allOf b).length / 64 = b.length / 64 + (tailOf b).length / 64 := by
    rw [h1, List.length_append, h2]
    omega
  rw [h3, h1, setZ_append _ _ _ _ h2]
  unfold endSt
  rw [show b.length / 64 * 64 / 64 = b.length / 64 by omega]
theorem setZ_last (s : Sh.St) (b : List UInt8) (k : Nat) : setZ s b (k + 1) = Sh.step (setZ s b k) ((b.take (64 * k + 64)).drop (64 * k)) := by
  rw [setZ]
  congr 1
  rw [List.drop_take, Nat.add_sub_cancel_left]
/-- a digest's byte at a place -/
def digB (l : List UInt32) (k : Nat) : UInt8 := UInt8.ofNat ((l.getD (k / 4) 0).toNat / 2 ^ (24 - 8 * (k % 4)) % 256)
theorem outB_get (l : List UInt32) : ∀ k, k < 4 * l.length → (outB l)[k]? = some (digB l k) := by
  induction l with
  | nil => intro k hk; simp at hk
  | cons x l ih =>
    intro k hk
    rw [outB, List.flatMap_cons]
    rcases Nat.lt_or_ge k 4 with h4 | h4
    · rw [List.getElem?_append_left (by simpa [wordB] using h4)]
      have e : k / 4 = 0 := by omega
      unfold digB
      rw [e]
      rcases (show k = 0 ∨ k = 1 ∨ k = 2 ∨ k = 3 by omega) with rfl | rfl | rfl | rfl <;> simp [wordB]
    · rw [List.getElem?_append_right (by simpa [wordB] using h4)]
      have e : k - (wordB x).length = k - 4 := by simp [wordB]
      rw [e]
      have := ih (k - 4) (by simp at hk; omega)
      rw [outB] at this
      rw [this]
      unfold digB
      obtain ⟨j, rfl⟩ : ∃ j, k = j + 4 := ⟨k - 4, by omega⟩
      rw [show j + 4 - 4 = j by omega, show (j + 4) / 4 = j / 4 + 1 by omega, show (j + 4) % 4 = j % 4 by omega]
      simp
def dgC (s : Sh.St) (k : Nat) : Array Value := (bcells ((outB (Sh.stL s)).take k ++ List.replicate (32 - k) 0)).toArray
theorem dgC_zero (s : Sh.St) : dgC s 0 = Array.replicate 32 (.int .u8 0) := zero_cells
theorem dgC_size (s : Sh.St) (k : Nat) (hk : k ≤ 32) : (dgC s k).size = 32 := by
  unfold dgC
  have : (outB (Sh.stL s)).length = 32 := by rw [outB_len]; rfl
  rw [List.size_toArray, bcells_length, List.length_append, List.length_take, List.length_replicate]
  omega
theorem dgC_step (s : Sh.St) (k : Nat) (hk : k < 32) : (dgC s k).setIfInBounds k (.int .u8 ((digB (Sh.stL s) k).toNat : Int)) = dgC s (k + 1) := by
  unfold dgC
  have hl : (outB (Sh.stL s)).length = 32 := by rw [outB_len]; rfl
  have hg := outB_get (Sh.stL s) k (by show k < 4 * 8; omega)
  rw [List.setIfInBounds_toArray]
  congr 1
  obtain ⟨m, hm⟩ : ∃ m, 32 - k = m + 1 := ⟨31 - k, by omega⟩
  have e : 32 - (k + 1) = m := by omega
  rw [hm, e, List.replicate_succ, List.take_add_one, hg]
  simp only [Option.toList_some]
  rw [bcells_append, bcells_append, bcells_append, List.append_assoc]
  have hl2 : (bcells ((outB (Sh.stL s)).take k)).length = k := by rw [bcells_length, List.length_take]; omega
  rw [List.set_append_right _ _ (by omega), hl2, Nat.sub_self]
  rfl
theorem dgC_last (s : Sh.St) : dgC s 32 = (bcells (outB (Sh.stL s))).toArray := by
  unfold dgC
  have hl : (outB (Sh.stL s)).length = 32 := by rw [outB_len]; rfl
  rw [List.take_of_length_le (by omega), show 32 - 32 = 0 from rfl, List.replicate_zero, List.append_nil]
theorem refshiftedI (x : UInt32) (n : Int) (m : Nat) (hm : n = m) (h1 : m ≤ 32) (w : World) :
    Calls Try.prog 103 #[.int .u32 (x.toNat : Int), .int .i64 n] w fun e w' => e = .returned (.int .u32 ((UInt32.ofNat (x.toNat / 2 ^ m)).toNat : Int)) ∧ w = w' := by
  subst hm
  exact refshifted x m h1 w
def StepPost (w0 : World) (l : List UInt32) (s8 s9 : Value) (wx : World) : Prop := ∃ g : Nat, s8 = .pointer (some ⟨g, 0, none⟩) ∧ s9 = .int .i64 0 ∧ w0.heap.size ≤ g ∧ wx.heap[g]? = some (.cells (wcells l).toArray 117 (0, 0)) ∧ Below w0.heap.size w0 wx
set_option maxRecDepth 100000 in
set_option maxHeartbeats 4000000 in
theorem refsum (b : List UInt8) (A : Option Addr) (c : Nat) (w : World) (hA : BSrc w A c b) (hm : b.length ≤ 140737488351232 - 72) :
    Calls Try.prog 96 #[.slice A b.length c] w fun e w' => e = .returned (.agg (bcells (sumOf b)).toArray) ∧ Below w.heap.size w w' := by
  obtain ⟨i0, hi, hi0, hi1, hi2⟩ := info_parts infoByte
  have HA := Lib.hid hA
  have HPAD := Lib.hid (fun W => refpad_ok b.length W (by omega))
  have HPL := Lib.hid (padOf_len b.length)
  have HE : Hid (sumOf b = outB (Sh.stL (setZ Sh.first (allOf b) ((allOf b).length / 64)))) := by unfold RowKit.Hid; rw [allOf_end]; rfl
  have HM64 := Lib.hid (allOf_len b)
  have HALL : Hid (allOf b = b ++ padOf b.length) := rfl
  have hi32 : (Try.prog.info? 44).map (·.size) = some 32 := by kernel_rfl
  have HI32 := Lib.hid hi32
  have hi8 : (Try.prog.info? 117).map (·.size) = some 8 := by kernel_rfl
  have HI8 := Lib.hid hi8
  have hib : (Try.prog.info? 5).map (·.size) = some 1 := by kernel_rfl
  have HIB := Lib.hid hib
  clear hA hi32 hi8 hib
  go_enter Try.func96, Try.ntmps96
  go_upto_region 3 with fail
  obtain ⟨W1, hW1⟩ : ∃ W1, W1 = w.alloc (.cells (Array.replicate 32 (.int .u8 0)) 44) := ⟨_, rfl⟩
  have HR0 : Hid (W1.heap[w.heap.size]? = some (.cells (Array.replicate 32 (.int .u8 0)) 44 (0, 0))) := by rw [hW1]; exact heap_alloc_new _ _
  have HS1 : Hid (W1.heap.size = w.heap.size + 1) := by rw [hW1]; simp [RowKit.Hid]
  have HB1 : Hid (Below w.heap.size w W1) := by rw [hW1]; exact (Below.refl _ _).alloc (Nat.le_refl _) _
  refine Calls.congr_world (W1 := W1) hW1 ?_
  refine (HPAD.out _).mono ?_
  rintro e w1 ⟨vp, rfl, hop, hb1⟩
  obtain ⟨Ap, cp, rfl⟩ := own_slice hop
  have HOP := Lib.hid (Src.of_own hop)
  have HB2 := Lib.hid (HB1.out.trans (hb1.mono HB1.out.size))
  have HR1 := Lib.hid ((hb1.block _ (by have := HS1.out; omega)).trans HR0.out)
  have HZ1 : Hid (w.heap.size < w1.heap.size) := (Array.getElem?_eq_some_iff.1 HR1.out).1
  clear hop hb1 hW1
  generalize padOf b.length = pd at *
  go_wp2_with (at_builtin; refine wpList_app_any rfl (.tmp 18) (.tmp 19) 31 rfl w1.heap.size 5 i0 (.int .u8 0) 1 1 Try.underlying31 hi hi0 hi1 hi2 rfl (by decide) (.slice none 0 0) 0 [] rfl (World.ownsRow_nil _ _ _ _) A b.length c (bcells b) rfl (HA.out.below HB2.out (Nat.le_refl _)) (bcells_one b) ?c3 ?c4 (Nat.le_refl _) ?_)
  case c3 => unfold maxLen; omega
  case c4 => omega
  intro v1 w2 hown1 hg1
  have HB3 : Hid (Below w1.heap.size w1 w2) := below_of_grown hg1 (Nat.le_refl _) (fun g hg => by cases hg)
  try simp only [Nat.zero_add, List.nil_append] at hown1
  have HO1 : Hid (w2.ownsRow w1.heap.size 5 1 v1 b.length (bcells b)) := hown1
  clear hown1 hg1
  go_wp2_with (at_builtin; refine wpList_app_any rfl (.tmp 21) (.tmp 22) 31 rfl w1.heap.size 5 i0 (.int .u8 0) 1 1 Try.underlying31 hi hi0 hi1 hi2 rfl (by decide) v1 b.length (bcells b) rfl HO1.out Ap pd.length cp (bcells pd) rfl (HOP.out.below HB3.out (Nat.le_refl _)) (bcells_one pd) ?d3 ?d4 HB3.out.size ?_)
  case d3 => have := HPL.out; unfold maxLen; omega
  case d4 => have := HPL.out; omega
  intro v2 w3 hown2 hg2
  have HB4 : Hid (Below w1.heap.size w1 w3) := HB3.out.trans (below_of_grown hg2 HB3.out.size (fun g hg => (HO1.out.lt g hg).1))
  have HB5 := Lib.hid (HB2.out.trans (HB4.out.mono HB2.out.size))
  have HR3 := Lib.hid ((HB4.out.block _ HZ1.out).trans HR1.out)
  have ho : w3.ownsRow w1.heap.size 5 1 v2 (allOf b).length (bcells (allOf b)) := by
    rw [HALL.out, List.length_append, bcells_append]; exact hown2
  have htl : b.length + pd.length = (allOf b).length := by rw [HALL.out, List.length_append]
  obtain ⟨A2, c2, rfl⟩ := own_slice ho
  have hcap : (allOf b).length ≤ c2 ∧ c2 ≤ 9223372036854775807 := by
    rcases ho.2 with ⟨hv, h0⟩ | ⟨g, cap, cur, hv, _, _, hn', hc', _⟩
    · injection hv with _ h1 h2; omega
    · injection hv with _ h1 h2; unfold maxLen at hc'; omega
  have HAt := Lib.hid (BytesAt.of_own ho)
  have HCP := Lib.hid hcap
  have hal : (allOf b).length ≤ 140737488351232 := by have := HPL.out; omega
  clear hown2 hg2 ho htl hcap HOP HO1 HB3 HALL HPL HPAD
  generalize allOf b = al at *
  go_wp2_with fail
  refine (reffirst _).mono ?_
  rintro e w4 ⟨rfl, hb4⟩
  have HB6 := Lib.hid (HB5.out.trans (hb4.mono HB5.out.size))
  have HAt4 := Lib.hid (HAt.out.below hb4 (Nat.le_refl _))
  have HR4 := Lib.hid ((hb4.block _ (Array.getElem?_eq_some_iff.1 HR3.out).1).trans HR3.out)
  have HF8 : Hid ((wcells (Sh.stL Sh.first)).toArray.size = 8) := by unfold RowKit.Hid; rw [List.size_toArray, wcells_length, stL_len]
  clear hb4
  go_upto_region 6 with (refine wpList_store_row rfl 117 (.tmp 6) (.tmp 24) rfl w4.heap.size (wcells (Sh.stL Sh.first)).toArray rfl rfl _ _ (heap_alloc_new _ _) (by rw [HI8.out, HF8.out]) (by rw [HF8.out]; rfl) (wcells_one _) ?_)
  obtain ⟨W5, hW5⟩ : ∃ W5, W5 = (w4.alloc (.cells (Array.replicate 8 (.int .u32 0)) 117)).setRow w4.heap.size (wcells (Sh.stL Sh.first)).toArray := ⟨_, rfl⟩
  have HG5 : Hid (W5.heap[w4.heap.size]? = some (.cells (wcells (Sh.stL (setZ Sh.first al 0))).toArray 117 (0, 0))) := by rw [hW5]; exact setRow_heap _ _ _ _ _ _ (heap_alloc_new _ _)
  have hb5 : Below w4.heap.size w4 W5 := by rw [hW5]; exact below_setRow ((Below.refl _ _).alloc (Nat.le_refl _) _) (Nat.le_refl _)
  refine wp_congr_world (W1 := W5) hW5 ?_
  have HB7 := Lib.hid hb5
  have HN1 : Hid (w.heap.size < w4.heap.size) := (Array.getElem?_eq_some_iff.1 HR4.out).1
  clear hW5 hb5 hi hi0 hi1 hi2
  have HSL : Hid (∀ k, (Sh.stL (setZ Sh.first al k)).length = 8) := fun _ => rfl
  have HNX : Hid (∀ k, setZ Sh.first al (k + 1) = Sh.step (setZ Sh.first al k) ((al.take (64 * k + 64)).drop (64 * k))) := fun k => setZ_last _ _ k
  have HZ0 : Hid (setZ Sh.first al 0 = Sh.first) := rfl
  generalize hzz : (fun k => setZ Sh.first al k) = zz at *
  have hz0 : ∀ k, setZ Sh.first al k = zz k := fun k => by rw [← hzz]
  rw [hz0] at HE HG5
  simp only [hz0] at HSL HNX
  clear hzz hz0 HZ0
  go_wp2_with fail
  go_loopw [7] (fun i wr => ∃ k : Nat, 64 * k ≤ al.length ∧ i = .int .i64 (64 * (k : Int)) ∧ Hid (wr.heap[w4.heap.size]? = some (.cells (wcells (Sh.stL (zz k))).toArray 117 (0, 0))) ∧ Hid (Below w4.heap.size w4 wr)) (fun i _ => al.length - (intOf i).toNat)
  case atStart => exact ⟨0, by omega, rfl, HG5, HB7⟩
  case round =>
    obtain ⟨k, hk, rfl, hG, hB⟩ := hrel
    by_cases hlt : 64 * k < al.length
    · as_aux_lemma =>
        have hk64 : 64 * k + 64 ≤ al.length := by have := HM64.out; omega
        obtain ⟨A1, hA1, hsl⟩ := slice_mid c2 (HAt4.out.below hB.out (Nat.le_refl _)) (64 * k) (64 * k + 64) (by omega) hk64 HCP.out.1
        have hbl : ((al.take (64 * k + 64)).drop (64 * k)).length = 64 := by rw [List.length_drop, List.length_take]; omega
        have hsl' : ∀ wx, (Instr.slice 31 (.slice A2 al.length c2) (some (.int .i64 (64 * (k : Int)))) (some (.int .i64 (64 * (k : Int) + 64))) none).run Try.prog wx = .ok (.slice A1 64 (c2 - 64 * k)) wx := fun wx => by
          have := hsl wx
          rw [show ((64 * k : Nat) : Int) = 64 * (k : Int) by omega, show ((64 * k + 64 : Nat) : Int) = 64 * (k : Int) + 64 by omega, show 64 * k + 64 - 64 * k = 64 by omega] at this
          exact this
        have hwr : IntKind.i64.wrap (64 * (k : Int) + 64) = 64 * (k : Int) + 64 := IntWalk.i64_in _ (by omega)
        have HST := Lib.hid (fun W (h : Below wr.heap.size wr W) => refstep_ok (zz k) ((al.take (64 * k + 64)).drop (64 * k)) A1 (c2 - 64 * k) W (hA1.below h (Nat.le_refl _)) hbl)
        rw [← HNX.out] at HST
        have H1 := Lib.hid hsl'
        have H2 := Lib.hid hwr
        clear hA1 hsl hsl' hwr hbl
        go_upto_region 9 with fail
        go_cut [8, 9] (fun s8 s9 wx => StepPost wr (Sh.stL (zz (k + 1))) s8 s9 wx)
        case first =>
          refine wp_region_any (by kernel_rfl) ?_
          refine wpAny_ops (ops' := rsumOps) (by kernel_rfl) ?_
          refine rsumRegion _ wr (by simp) (Sh.stL (zz k)) (Sh.stL (zz (k + 1))) (HSL.out _) (HSL.out _) A2 A1 al.length c2 (c2 - 64 * k) w4.heap.size k HST.out H1.out H2.out hG.out rfl rfl rfl ?_
          intro wx g hbx hgx hrx
          simp only [rsumSlots, List.foldl_cons, List.foldl_nil]
          simp only [rsumVal]
          simp only [Act.put, List.setIfInBounds_toArray, List.set_cons_zero, List.set_cons_succ]
          have hm : StepPost wr (Sh.stL (zz (k + 1))) (.pointer (some ⟨g, 0, none⟩)) (.int .i64 0) wx := ⟨g, rfl, rfl, hgx, hrx, hbx⟩
          have HMM := Lib.hid hm
          clear hbx hgx hrx hm
          go_wp2_with fail
          go_meet
          exact HMM.out
        case rest =>
          obtain ⟨g, rfl, rfl, hg1, hg2, hg3⟩ := hcut
          have HG2 := Lib.hid hg2
          have HZZ : Hid ((wcells (Sh.stL (zz (k + 1)))).toArray.size = 8) := by unfold RowKit.Hid; rw [List.size_toArray, wcells_length, HSL.out]
          have HZK : Hid ((wcells (Sh.stL (zz k))).toArray.size = 8) := by unfold RowKit.Hid; rw [List.size_toArray, wcells_length, HSL.out]
          have HK6 := Lib.hid ((hg3.block _ (Array.getElem?_eq_some_iff.1 hG.out).1).trans hG.out)
          have HBX := Lib.hid (hB.out.trans (hg3.mono hB.out.size))
          clear hg2 hg3
          go_wp2_with (first
            | refine wpList_load_row rfl 117 (.tmp 8) rfl g rfl _ _ _ (.array 8 22) HG2.out (by kernel_rfl) rfl (by rw [HI8.out, HZZ.out]) ?_
            | refine wpList_store_row rfl 117 (.tmp 6) (.tmp 41) rfl w4.heap.size (wcells (Sh.stL (zz (k + 1)))).toArray rfl rfl _ _ HK6.out (by rw [HI8.out, HZZ.out]) (by rw [HZK.out, HZZ.out]) (wcells_one _) ?_)
          have E1 := Lib.hid (setRow_heap _ _ _ (wcells (Sh.stL (zz (k + 1)))).toArray _ _ HK6.out)
          have E2 := Lib.hid (below_setRow (cs := (wcells (Sh.stL (zz (k + 1)))).toArray) HBX.out (Nat.le_refl _))
          go_roundw
          case rel => exact ⟨k + 1, hk64, by go_num, E1, E2⟩
          case measure => simp [intOf]; omega
    · have hke : k = al.length / 64 := by have := HM64.out; omega
      rw [← hke] at HE
      have HEK := Lib.hid HE.out
      clear hke HE
      generalize hzk : zz k = st at *
      have HZK := Lib.hid hzk
      clear hzk HNX HSL
      go_upto_region 12 with fail
      obtain ⟨WZ, hWZ⟩ : ∃ WZ, WZ = wr.alloc (.cells (Array.replicate 32 (.int .u8 0)) 44) := ⟨_, rfl⟩
      have HD0 : Hid (WZ.heap[wr.heap.size]? = some (.cells (dgC st 0) 44 (0, 0))) := by rw [hWZ, dgC_zero]; exact heap_alloc_new _ _
      have HV0 : Hid (WZ.heap[w4.heap.size]? = some (.cells (wcells (Sh.stL st)).toArray 117 (0, 0))) := by rw [hWZ]; exact (heap_alloc_old wr _ (Array.getElem?_eq_some_iff.1 hG.out).1).trans hG.out
      have HBZ : Hid (Below w.heap.size w WZ) := by rw [hWZ]; exact (HB6.out.trans (hB.out.mono HB6.out.size)).alloc (by have := HB6.out.size; have := hB.out.size; omega) _
      have HRZ : Hid (WZ.heap[w.heap.size]? = some (.cells (Array.replicate 32 (.int .u8 0)) 44 (0, 0))) := by
        rw [hWZ]
        have h1 := (hB.out.block _ HN1.out).trans HR4.out
        exact (heap_alloc_old wr _ (Array.getElem?_eq_some_iff.1 h1).1).trans h1
      have HNE : Hid (w.heap.size < wr.heap.size ∧ w4.heap.size < wr.heap.size) := ⟨Nat.lt_of_lt_of_le HN1.out hB.out.size, (Array.getElem?_eq_some_iff.1 hG.out).1⟩
      refine wp_congr_world (W1 := WZ) hWZ ?_
      clear hWZ
      have HDS : Hid (∀ k, k < 32 → (dgC st k).setIfInBounds k (.int .u8 ((digB (Sh.stL st) k).toNat : Int)) = dgC st (k + 1)) := fun k hk => dgC_step st k hk
      have HDZ : Hid (∀ k, k ≤ 32 → (dgC st k).size = 32) := fun k hk => dgC_size st k hk
      have HDL : Hid (dgC st 32 = (bcells (sumOf b)).toArray) := by unfold RowKit.Hid; rw [HEK.out]; exact dgC_last st
      have HDG : Hid (∀ k, (digB (Sh.stL st) k).toNat = ((Sh.stL st).getD (k / 4) 0).toNat / 2 ^ (24 - 8 * (k % 4)) % 256) := fun k => by
        unfold digB
        rw [UInt8.toNat_ofNat']
        omega
      have HGC : Hid (∀ j, j < 8 → (wcells (Sh.stL st)).toArray[j]? = some (.int .u32 (((Sh.stL st).getD j 0).toNat : Int))) := fun j hj => by
        have hj8 : j < (Sh.stL st).length := hj
        rw [List.getElem?_toArray, wcells_at _ j hj8, List.getD_eq_getElem?_getD, List.getElem?_eq_getElem hj8]
        rfl
      generalize dgC st = dg at *
      generalize digB (Sh.stL st) = db at *
      generalize wcells (Sh.stL st) = vc at *
      generalize hgd : (fun j => (Sh.stL st).getD j 0) = gd at *
      have hgd0 : ∀ j, (Sh.stL st).getD j 0 = gd j := fun j => by rw [← hgd]
      simp only [hgd0] at HDG HGC
      clear hgd hgd0 HEK
      go_wp2_with fail
      go_loopw [11] (fun i wq => ∃ k : Nat, k ≤ 32 ∧ i = .int .i64 k ∧ Hid (wq.heap[wr.heap.size]? = some (.cells (dg k) 44 (0, 0))) ∧ Hid (wq.heap[w4.heap.size]? = some (.cells vc.toArray 117 (0, 0))) ∧ Hid (wq.heap[w.heap.size]? = some (.cells (Array.replicate 32 (.int .u8 0)) 44 (0, 0))) ∧ Hid (Below w.heap.size w wq)) (fun i _ => 32 - (intOf i).toNat)
      case atStart => exact ⟨0, by omega, rfl, HD0, HV0, HRZ, HBZ⟩
      case round =>
        obtain ⟨k, hk, rfl, h10, h6, h2, hBq⟩ := hrel
        obtain ⟨wq, rfl⟩ : ∃ wq : World, wq = wr := ⟨_, rfl⟩
        by_cases hlt : k < 32
        · as_aux_lemma =>
            have c6 := (cell_of_row wq w4.heap.size (k / 4) _ _ (0, 0) h6.out).trans (HGC.out (k / 4) (by omega))
            have HX := Lib.hid (HDG.out k)
            have HSTP := Lib.hid (HDS.out k hlt)
            have HSZ := Lib.hid (HDZ.out k hk)
            generalize gd (k / 4) = x at *
            generalize db k = y at *
            have HSH := Lib.hid (fun W => refshiftedI x (24 - 8 * ((k : Int) % 4)) (24 - 8 * (k % 4)) (by omega) (by omega) W)
            have hX := shr_toNat x (24 - 8 * (k % 4))
            have HXV : Hid (((UInt32.ofNat (x.toNat / 2 ^ (24 - 8 * (k % 4)))).toNat : Int) % 256 = (y.toNat : Int)) := by unfold RowKit.Hid; rw [hX, HX.out]; omega
            generalize UInt32.ofNat (x.toNat / 2 ^ (24 - 8 * (k % 4))) = z at *
            have hz0 : (0 : Int) ≤ (z.toNat : Int) := by omega
            have r0 : (0 : Int) ≤ (k : Int) / 4 := by omega
            have r1 : (k : Int) / 4 < 8 := by omega
            have r2 : (0 : Int) ≤ (k : Int) := by omega
            have r3 : (k : Int) < 32 := by omega
            have t0 : ((k : Int) / 4).toNat = k / 4 := by omega
            clear hX
            go_wp2_with fail
            refine (HSH.out _).mono ?_
            rintro e w' ⟨rfl, rfl⟩
            go_wp2_with (refine wpList_store1 rfl 5 (.tmp 58) (.tmp 57) rfl wr.heap.size k .u8 _ rfl rfl h10.out (by rw [HSZ.out]; exact hlt) HIB.out ?_; intro y1 r1 m1; have R1 := Lib.hid r1; have G1 := Lib.hid m1; clear r1 m1)
            have E1 : Hid (y1.heap[wr.heap.size]? = some (.cells (dg (k + 1)) 44 (0, 0))) := by unfold RowKit.Hid; rw [← HSTP.out, ← HXV.out]; exact R1.out
            have E2 : Hid (y1.heap[w4.heap.size]? = some (.cells vc.toArray 117 (0, 0))) := other_by G1.out (by have := HNE.out.2; omega) h6.out
            have E3 : Hid (y1.heap[w.heap.size]? = some (.cells (Array.replicate 32 (.int .u8 0)) 44 (0, 0))) := other_by G1.out (by have := HNE.out.1; omega) h2.out
            have E4 : Hid (Below w.heap.size w y1) := below_by hBq.out G1.out hBq.out.size (by have := HNE.out.1; omega)
            go_roundw
            case rel => exact ⟨k + 1, by omega, by go_num, E1, E2, E3, E4⟩
            case measure => simp [intOf]; omega
        · obtain rfl : k = 32 := by omega
          rw [HDL.out] at h10
          have HSP : Hid ((bcells (sumOf b)).toArray.size = 32) := by rw [← HDL.out]; exact HDZ.out 32 (Nat.le_refl _)
          generalize hfin : bcells (sumOf b) = fin at *
          have HFIN := Lib.hid hfin
          have HONE : Hid (fin.toArray.all (·.oneCell') = true) := by unfold RowKit.Hid; rw [← hfin]; exact cells_one32 _
          clear hfin HDL HDZ HDS HDG HGC
          go_wp2_with (first
            | refine wpList_load_row rfl 44 (.tmp 10) rfl wr.heap.size rfl _ _ _ (.array 32 5) h10.out (by kernel_rfl) rfl (by rw [HI32.out, HSP.out]) ?_
            | refine wpList_store_row rfl 44 (.tmp 2) (.tmp 59) rfl w.heap.size fin.toArray rfl rfl _ _ h2.out (by rw [HI32.out, HSP.out]) (by rw [HSP.out]; rfl) HONE.out ?_)
          exact bodyPost_ret (v := .agg fin.toArray) (results_cell_row (P := Try.prog) (d := .array 32 5) rfl _ _ w.heap.size _ _ _ rfl (setRow_heap _ _ _ _ _ _ h2.out) (by kernel_rfl) rfl (by rw [HI32.out, HSP.out])) rfl ⟨by rw [HFIN.out], below_setRow hBq.out (Nat.le_refl _)⟩
end Go.Proofs.Ytjhopgmionpkoaa
