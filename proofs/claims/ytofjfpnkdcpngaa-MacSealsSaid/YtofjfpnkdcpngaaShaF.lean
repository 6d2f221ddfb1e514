/-
  The state behind a block, by the package sha.
-/
import Derived.Test.YtofjfpnkdcpngaaShaE
import Derived.Test.YtofjfpnkdcpngaaShaR
import Derived.Test.YtofjfpnkdcpngaaCell1
import Derived.StillTailTactics
namespace Go.Proofs.Ytofjfpnkdcpngaa
open Go.RowKit Mem

theorem wpAny_ops {P : Program} {md : Region.Mode} {ops ops' : Array Oper} {Q : Exit → Act → World → Prop} {f : Nat} {L : Array Bool} {a : Act} {w : World} (h : ops' = ops) (h2 : wpAny P md ops' Q f L a w) : wpAny P md ops Q f L a w := h ▸ h2
theorem Fx.form {a0 a : Act} (h : Fx a0 a) : a = ((((((a0.put (some 6) (a.eval (.tmp 6))).put (some 7) (a.eval (.tmp 7))).put (some 8) (a.eval (.tmp 8))).put (some 17) (a.eval (.tmp 17))).put (some 18) (a.eval (.tmp 18))).put (some 19) (a.eval (.tmp 19))).put (some 20) (a.eval (.tmp 20)) := by
  obtain ⟨h1, h2, h3⟩ := h
  cases a with
  | mk T D =>
    cases a0 with
    | mk T0 D0 =>
      simp only at h1 h2 h3
      subst h2
      have hp : ∀ (t : Array Value) (j : Nat) (v : Value), (Act.mk t D).put (some j) v = Act.mk (t.setIfInBounds j v) D := fun _ _ _ => rfl
      have he : ∀ j, (Act.mk T D).eval (.tmp j) = T.getD j undef := fun _ => rfl
      simp only [he]
      rw [hp, hp, hp, hp, hp, hp, hp]
      refine congrArg (fun t => Act.mk t D) ?_
      apply Array.ext_getElem?
      intro j
      simp only [Array.getElem?_setIfInBounds, Array.size_setIfInBounds, ← h1]
      by_cases hl : j < T.size
      · by_cases hj : own_ j = true
        · have hc : j = 6 ∨ j = 7 ∨ j = 8 ∨ j = 17 ∨ j = 18 ∨ j = 19 ∨ j = 20 := by
            simp only [own_, Bool.or_eq_true, beq_iff_eq] at hj
            omega
          rcases hc with rfl | rfl | rfl | rfl | rfl | rfl | rfl <;> simp [hl]
        · have hj' : own_ j = false := by simpa using hj
          rw [h3 j hj']
          simp only [own_, Bool.or_eq_false_iff, beq_eq_false_iff_ne] at hj'
          rw [if_neg (by omega), if_neg (by omega), if_neg (by omega), if_neg (by omega), if_neg (by omega), if_neg (by omega), if_neg (by omega)]
      · have hz : T[j]? = none := Array.getElem?_eq_none (by omega)
        have hz0 : T0[j]? = none := Array.getElem?_eq_none (by omega)
        rw [hz, hz0]
        repeat' split
        all_goals first | rfl | omega
theorem u_not (x : UInt32) : bits .xor .u32 IntKind.u32.max (x.toNat : Int) = ((4294967295 - x).toNat : Int) := by
  have h : (4294967295 : UInt32) - x = ~~~x := by
    apply UInt32.toBitVec_inj.1
    simp only [UInt32.toBitVec_sub, UInt32.toBitVec_not]
    show (BitVec.allOnes 32) - x.toBitVec = ~~~x.toBitVec
    rw [BitVec.allOnes_sub_eq_not]
  have e : (IntKind.u32.max : Int) = (((4294967295 : UInt32).toNat : Nat) : Int) := by decide
  rw [e, u_xor, h]
  congr 2
theorem e_t1 (st : Sh.St) (kw ww : UInt32) : ((st.h.toNat : Int) + bits .xor .u32 (bits .xor .u32 ((Sh.ror 6 st.e).toNat : Int) ((Sh.ror 11 st.e).toNat : Int)) ((Sh.ror 25 st.e).toNat : Int) +
    bits .xor .u32 (bits .and .u32 (st.e.toNat : Int) (st.f.toNat : Int)) (bits .and .u32 (bits .xor .u32 IntKind.u32.max (st.e.toNat : Int)) (st.g.toNat : Int)) + (kw.toNat : Int) + (ww.toNat : Int)) % 4294967296 = ((Sh.t1 st kw ww).toNat : Int) := by
  unfold Sh.t1
  simp only [u_not, u_xor, u_and, UInt32.toNat_add]
  omega
theorem e_t2 (st : Sh.St) : (bits .xor .u32 (bits .xor .u32 ((Sh.ror 2 st.a).toNat : Int) ((Sh.ror 13 st.a).toNat : Int)) ((Sh.ror 22 st.a).toNat : Int) +
    bits .xor .u32 (bits .xor .u32 (bits .and .u32 (st.a.toNat : Int) (st.b.toNat : Int)) (bits .and .u32 (st.a.toNat : Int) (st.c.toNat : Int))) (bits .and .u32 (st.b.toNat : Int) (st.c.toNat : Int))) % 4294967296 = ((Sh.t2 st).toNat : Int) := by
  unfold Sh.t2
  simp only [u_xor, u_and, UInt32.toNat_add]
  omega
theorem quiet_add_same {P : Program} {f : FuncId} {args : Array Value} {w : World} {a n : Nat} {v : Value}
    (h : Calls P f args (w.drewN (a + n)) fun e w' => e = .returned v ∧ w' = w.drewN (a + n)) :
    Calls P f args (w.drewN (a + n)) fun e w'' => e = .returned v ∧ ∃ m, w'' = w.drewN (a + m) :=
  h.mono fun _ _ ⟨he, hm⟩ => ⟨he, n, hm⟩
theorem e_t2w (st : Sh.St) : IntKind.u32.wrap (bits .xor .u32 (bits .xor .u32 ((Sh.ror 2 st.a).toNat : Int) ((Sh.ror 13 st.a).toNat : Int)) ((Sh.ror 22 st.a).toNat : Int) +
    bits .xor .u32 (bits .xor .u32 (bits .and .u32 (st.a.toNat : Int) (st.b.toNat : Int)) (bits .and .u32 (st.a.toNat : Int) (st.c.toNat : Int))) (bits .and .u32 (st.b.toNat : Int) (st.c.toNat : Int))) = ((Sh.t2 st).toNat : Int) := by
  rw [IntKind.wrap_u32']; exact e_t2 st
theorem set8 {W : World} {g : Nat} {t : TypeId} {c0 c1 c2 c3 c4 c5 c6 c7 : Value} (h : W.heap[g]? = some (.cells #[c0, c1, c2, c3, c4, c5, c6, c7] t (0, 0))) (n : Nat) (u0 u1 u2 u3 u4 u5 u6 u7 : Value) :
    (((((((((W.drewN n).setCell ⟨g, 7, none⟩ u7).setCell ⟨g, 6, none⟩ u6).setCell ⟨g, 5, none⟩ u5).setCell ⟨g, 4, none⟩ u4).setCell ⟨g, 3, none⟩ u3).setCell ⟨g, 2, none⟩ u2).setCell ⟨g, 1, none⟩ u1).setCell ⟨g, 0, none⟩ u0).heap[g]? = some (.cells #[u0, u1, u2, u3, u4, u5, u6, u7] t (0, 0)) := by
  have h7 := heap_setCell_same (W.drewN n) g 7 _ t u7 h
  have h6 := heap_setCell_same _ g 6 _ t u6 h7
  have h5 := heap_setCell_same _ g 5 _ t u5 h6
  have h4 := heap_setCell_same _ g 4 _ t u4 h5
  have h3 := heap_setCell_same _ g 3 _ t u3 h4
  have h2 := heap_setCell_same _ g 2 _ t u2 h3
  have h1 := heap_setCell_same _ g 1 _ t u1 h2
  have h0 := heap_setCell_same _ g 0 _ t u0 h1
  rw [h0]
  simp only [List.setIfInBounds_toArray, List.set_cons_zero, List.set_cons_succ]
theorem set8_far {W : World} {g j : Nat} (hj : j ≠ g) (n : Nat) (u0 u1 u2 u3 u4 u5 u6 u7 : Value) : (((((((((W.drewN n).setCell ⟨g, 7, none⟩ u7).setCell ⟨g, 6, none⟩ u6).setCell ⟨g, 5, none⟩ u5).setCell ⟨g, 4, none⟩ u4).setCell ⟨g, 3, none⟩ u3).setCell ⟨g, 2, none⟩ u2).setCell ⟨g, 1, none⟩ u1).setCell ⟨g, 0, none⟩ u0).heap[j]? = W.heap[j]? := by
  rw [heap_setCell_other _ _ _ _ hj, heap_setCell_other _ _ _ _ hj, heap_setCell_other _ _ _ _ hj, heap_setCell_other _ _ _ _ hj, heap_setCell_other _ _ _ _ hj, heap_setCell_other _ _ _ _ hj, heap_setCell_other _ _ _ _ hj, heap_setCell_other _ _ _ _ hj]
  rfl
theorem set8_below {B : Nat} {W0 W : World} {g : Nat} (h : Below B W0 W) (hg : B ≤ g) (n : Nat) (u0 u1 u2 u3 u4 u5 u6 u7 : Value) : Below B W0 (((((((((W.drewN n).setCell ⟨g, 7, none⟩ u7).setCell ⟨g, 6, none⟩ u6).setCell ⟨g, 5, none⟩ u5).setCell ⟨g, 4, none⟩ u4).setCell ⟨g, 3, none⟩ u3).setCell ⟨g, 2, none⟩ u2).setCell ⟨g, 1, none⟩ u1).setCell ⟨g, 0, none⟩ u0) :=
  ((((((((below_drewN h n).setCell hg _).setCell hg _).setCell hg _).setCell hg _).setCell hg _).setCell hg _).setCell hg _).setCell hg _
theorem type_ne {W : World} {g g' : Nat} {t t' : TypeId} {cs cs' : Array Value} (h : W.heap[g]? = some (.cells cs t (0, 0))) (h' : W.heap[g']? = some (.cells cs' t' (0, 0))) (hne : t ≠ t') : g ≠ g' := by
  rintro rfl
  rw [h] at h'
  injection h' with h'
  injection h' with _ ht
  exact hne ht
def addTo (ss vs : List UInt32) (k : Nat) : List UInt32 := List.zipWith (· + ·) (vs.take k) (ss.take k) ++ vs.drop k
theorem addTo_len (s v : Sh.St) (k : Nat) (hk : k ≤ 8) : (addTo (Sh.stL s) (Sh.stL v) k).length = 8 := by
  rcases (show k = 0 ∨ k = 1 ∨ k = 2 ∨ k = 3 ∨ k = 4 ∨ k = 5 ∨ k = 6 ∨ k = 7 ∨ k = 8 by omega) with rfl | rfl | rfl | rfl | rfl | rfl | rfl | rfl | rfl <;> rfl
theorem addTo_step (s v : Sh.St) (k : Nat) (hk : k < 8) : ∃ x y : UInt32, (addTo (Sh.stL s) (Sh.stL v) k)[k]? = some x ∧ (Sh.stL s)[k]? = some y ∧ (addTo (Sh.stL s) (Sh.stL v) k).set k (x + y) = addTo (Sh.stL s) (Sh.stL v) (k + 1) := by
  rcases (show k = 0 ∨ k = 1 ∨ k = 2 ∨ k = 3 ∨ k = 4 ∨ k = 5 ∨ k = 6 ∨ k = 7 by omega) with rfl | rfl | rfl | rfl | rfl | rfl | rfl | rfl <;> exact ⟨_, _, rfl, rfl, rfl⟩
theorem wcells_get {l : List UInt32} {k : Nat} {x : UInt32} (h : l[k]? = some x) : (wcells l).toArray[k]? = some (.int .u32 (x.toNat : Int)) := by
  rw [List.getElem?_toArray]
  unfold wcells
  rw [List.getElem?_map, h]
  rfl
theorem wcells_set (l : List UInt32) (k : Nat) (x : UInt32) : (wcells l).toArray.setIfInBounds k (.int .u32 (x.toNat : Int)) = (wcells (l.set k x)).toArray := by
  rw [List.setIfInBounds_toArray]
  unfold wcells
  rw [List.map_set]
theorem stL_len (s : Sh.St) : (Sh.stL s).length = 8 := rfl
def Mid (W0 : World) (V18 V19 V20 : Array Value) (s6 s7 s8 : Value) (wx : World) : Prop :=
  ∃ g6 g7 g8 : Nat, s6 = .pointer (some ⟨g6, 0, none⟩) ∧ s7 = .pointer (some ⟨g7, 0, none⟩) ∧ s8 = .pointer (some ⟨g8, 0, none⟩) ∧ W0.heap.size ≤ g6 ∧ W0.heap.size ≤ g7 ∧ W0.heap.size ≤ g8 ∧
    wx.heap[g6]? = some (.cells V18 53 (0, 0)) ∧ wx.heap[g7]? = some (.cells V19 53 (0, 0)) ∧ wx.heap[g8]? = some (.cells V20 43 (0, 0)) ∧ Below W0.heap.size W0 wx
theorem drewN_twice (w : World) (m n : Nat) : (w.drewN m).drewN n = w.drewN (m + n) := by
  unfold World.drewN
  simp [Nat.add_assoc]
set_option maxRecDepth 100000 in
set_option maxHeartbeats 40000000 in
theorem shastep_aux (s fin : Sh.St) (b : List UInt8) (A : Option Addr) (c : Nat) (w : World) (hA : BytesAt w A b) (hl : b.length = 64) (HFIN : Hid (Sh.step s b = fin)) :
    Calls Try.prog 35 #[.agg (wcells (Sh.stL s)).toArray, .slice A 64 c] w fun e w' => e = .returned (.tuple #[.agg (wcells (Sh.stL fin)).toArray, .int .i64 0]) ∧ Below w.heap.size w w' := by
  have HA := Lib.hid hA
  have HL := Lib.hid hl
  clear hA hl
  have HS : Hid ((wcells (Sh.stL s)).toArray = #[.int .u32 (s.a.toNat : Int), .int .u32 (s.b.toNat : Int), .int .u32 (s.c.toNat : Int), .int .u32 (s.d.toNat : Int), .int .u32 (s.e.toNat : Int), .int .u32 (s.f.toNat : Int), .int .u32 (s.g.toNat : Int), .int .u32 (s.h.toNat : Int)]) := rfl
  rw [HS.out]
  go_enter Try.func35, Try.ntmps35
  go_upto_region 3 with fail
  rw [← HS.out]
  obtain ⟨W0, hW0⟩ : ∃ W0, W0 = (w.alloc (.cells (wcells (Sh.stL s)).toArray 43)).alloc (.cells #[.int .u32 0, .int .u32 0, .int .u32 0, .int .u32 0, .int .u32 0, .int .u32 0, .int .u32 0, .int .u32 0] 43) := ⟨_, rfl⟩
  have HB0 : Hid (W0.heap[w.heap.size]? = some (.cells (wcells (Sh.stL s)).toArray 43 (0, 0))) := by rw [hW0]; exact heap_alloc2_old _ _ _
  have HB1 : Hid (W0.heap[w.heap.size + 1]? = some (.cells #[.int .u32 0, .int .u32 0, .int .u32 0, .int .u32 0, .int .u32 0, .int .u32 0, .int .u32 0, .int .u32 0] 43 (0, 0))) := by rw [hW0]; exact heap_alloc2_new _ _ _
  have HZ0 : Hid (W0.heap.size = w.heap.size + 2) := by rw [hW0]; simp [RowKit.Hid]
  have HBW : Hid (Below w.heap.size w W0) := by rw [hW0]; exact ((Below.refl _ _).alloc (Nat.le_refl _) _).alloc (by simp) _
  rw [← hW0]
  clear hW0
  go_cut [6, 7, 8] (fun s6 s7 s8 wx => Mid W0 (wcells (Sh.sched b 64)).toArray (wcells Sh.ks).toArray (wcells (Sh.stL s)).toArray s6 s7 s8 wx)
  case first =>
    as_aux_lemma =>
      refine wp_region_any (by kernel_rfl) ?_
      refine wpAny_ops (ops' := stepOps) (by kernel_rfl) ?_
      refine stepRegion b (wcells (Sh.stL s)).toArray A c w.heap.size _ W0 (by simp) rfl rfl HB0.out rfl (wcells_one _) (HA.out.below HBW.out (Nat.le_refl _)) HL.out ?_
      intro g6 g7 g8 a wx h
      rw [h.fx.form, (h.f6 rfl).1, (h.f7 rfl).1, (h.f8 rfl).1, h.f17 rfl, h.f18 rfl, h.f19 rfl, h.f20 rfl]
      simp only [Act.put, List.setIfInBounds_toArray, List.set_cons_zero, List.set_cons_succ]
      obtain ⟨_, q6, Z6, z6, _, y6⟩ := h.f6 rfl
      obtain ⟨_, q7, Z7, z7, _, y7⟩ := h.f7 rfl
      obtain ⟨_, q8, Z8, z8, _, y8⟩ := h.f8 rfl
      obtain rfl := y6 rfl
      obtain rfl := y7 rfl
      obtain rfl := y8 rfl
      have hm : Mid W0 (wcells (Sh.sched b 64)).toArray (wcells Sh.ks).toArray (wcells (Sh.stL s)).toArray (.pointer (some ⟨g6, 0, none⟩)) (.pointer (some ⟨g7, 0, none⟩)) (.pointer (some ⟨g8, 0, none⟩)) wx :=
        ⟨g6, g7, g8, rfl, rfl, rfl, q6, q7, q8, z6, z7, z8, h.below⟩
      clear h z6 z7 z8 y6 y7 y8 q6 q7 q8
      go_wp2_with fail
      go_meet
      exact hm
  case rest =>
    obtain ⟨g6, g7, g8, rfl, rfl, rfl, q6, q7, q8, z6, z7, z8, hb⟩ := hcut
    have H6 := Lib.hid z6
    have H7 := Lib.hid z7
    have H8 := Lib.hid z8
    have HB := Lib.hid hb
    clear z6 z7 z8 hb
    go_wp2_with fail
    have HR0 : Hid (∀ k, Sh.rnds b (k + 1) s = Sh.rnd (Sh.rnds b k s) (Sh.ks.getD k 0) ((Sh.sched b 64).getD k 0)) := fun k => rfl
    have HL6 : Hid ((Sh.sched b 64).length = 64) := Sh.sched_length b 64
    have HL7 : Hid (Sh.ks.length = 64) := Sh.ks_length
    generalize Sh.sched b 64 = ws at *
    generalize Sh.ks = kl at *
    have HSt : Hid (Sh.rnds b 0 s = s) := rfl
    generalize hrr : (fun k => Sh.rnds b k s) = rr at *
    have hr0 : ∀ k, Sh.rnds b k s = rr k := fun k => by rw [← hrr]
    rw [hr0] at HSt
    simp only [hr0] at HR0
    have HRR := Lib.hid hr0
    clear hrr hr0
    have H8' := H8
    rw [← HSt.out] at H8'
    go_loopw [21] (fun i wr => ∃ k : Nat, k ≤ 64 ∧ i = .int .i64 k ∧ Hid (wr.heap[g6]? = some (.cells (wcells ws).toArray 53 (0, 0))) ∧ Hid (wr.heap[g7]? = some (.cells (wcells kl).toArray 53 (0, 0))) ∧ Hid (wr.heap[g8]? = some (.cells (wcells (Sh.stL (rr k))).toArray 43 (0, 0))) ∧ Hid (Below W0.heap.size W0 wr)) (fun i _ => 64 - (intOf i).toNat)
    case atStart => exact ⟨0, by omega, rfl, H6, H7, H8', HB⟩
    case round =>
      obtain ⟨k, hk, rfl, h6, h7, h8, hB⟩ := hrel
      by_cases hlt : k < 64
      · as_aux_lemma =>
          have hk6 : k < ws.length := by rw [HL6.out]; exact hlt
          have hk7 : k < kl.length := by rw [HL7.out]; exact hlt
          have cw : wr.cell? ⟨g6, k, none⟩ = some (.int .u32 (((ws[k]'hk6).toNat : Nat) : Int)) := by
            rw [cell_of_row wr g6 k _ _ (0, 0) h6.out, List.getElem?_toArray]; exact wcells_at _ k hk6
          have ck : wr.cell? ⟨g7, k, none⟩ = some (.int .u32 (((kl[k]'hk7).toNat : Nat) : Int)) := by
            rw [cell_of_row wr g7 k _ _ (0, 0) h7.out, List.getElem?_toArray]; exact wcells_at _ k hk7
          have HR : Hid (rr (k + 1) = Sh.rnd (rr k) (kl[k]'hk7) (ws[k]'hk6)) := by
            have := HR0.out k
            rw [List.getD_eq_getElem?_getD, List.getD_eq_getElem?_getD, List.getElem?_eq_getElem hk6, List.getElem?_eq_getElem hk7] at this
            exact this
          generalize ws[k]'hk6 = ww at *
          generalize kl[k]'hk7 = kw at *
          generalize hst : rr k = st at *
          have v0 : wr.cell? ⟨g8, 0, none⟩ = some (.int .u32 (st.a.toNat : Int)) := cell_of_row wr g8 0 _ _ (0, 0) h8.out
          have v1 : wr.cell? ⟨g8, 1, none⟩ = some (.int .u32 (st.b.toNat : Int)) := cell_of_row wr g8 1 _ _ (0, 0) h8.out
          have v2 : wr.cell? ⟨g8, 2, none⟩ = some (.int .u32 (st.c.toNat : Int)) := cell_of_row wr g8 2 _ _ (0, 0) h8.out
          have v3 : wr.cell? ⟨g8, 3, none⟩ = some (.int .u32 (st.d.toNat : Int)) := cell_of_row wr g8 3 _ _ (0, 0) h8.out
          have v4 : wr.cell? ⟨g8, 4, none⟩ = some (.int .u32 (st.e.toNat : Int)) := cell_of_row wr g8 4 _ _ (0, 0) h8.out
          have v5 : wr.cell? ⟨g8, 5, none⟩ = some (.int .u32 (st.f.toNat : Int)) := cell_of_row wr g8 5 _ _ (0, 0) h8.out
          have v6 : wr.cell? ⟨g8, 6, none⟩ = some (.int .u32 (st.g.toNat : Int)) := cell_of_row wr g8 6 _ _ (0, 0) h8.out
          have v7 : wr.cell? ⟨g8, 7, none⟩ = some (.int .u32 (st.h.toNat : Int)) := cell_of_row wr g8 7 _ _ (0, 0) h8.out
          have z0 : wr.frozen? ⟨g8, 0, none⟩ = false := frozen_of_row wr g8 0 _ _ h8.out
          have z1 : wr.frozen? ⟨g8, 1, none⟩ = false := frozen_of_row wr g8 1 _ _ h8.out
          have z2 : wr.frozen? ⟨g8, 2, none⟩ = false := frozen_of_row wr g8 2 _ _ h8.out
          have z3 : wr.frozen? ⟨g8, 3, none⟩ = false := frozen_of_row wr g8 3 _ _ h8.out
          have z4 : wr.frozen? ⟨g8, 4, none⟩ = false := frozen_of_row wr g8 4 _ _ h8.out
          have z5 : wr.frozen? ⟨g8, 5, none⟩ = false := frozen_of_row wr g8 5 _ _ h8.out
          have z6 : wr.frozen? ⟨g8, 6, none⟩ = false := frozen_of_row wr g8 6 _ _ h8.out
          have z7 : wr.frozen? ⟨g8, 7, none⟩ = false := frozen_of_row wr g8 7 _ _ h8.out
          have r0 : (0 : Int) ≤ k := by omega
          have r1 : (k : Int) < 64 := by omega
          clear hk6 hk7 hst
          go_wp2_with fail
          go_quiet ((go_at_call 41; exact Calls.quiet_of_same (same_right (sharight _ _ (by decide) _))))
          go_wp2_with fail
          rw [e_t1]
          generalize hT1 : Sh.t1 st kw ww = T1 at *
          have HT1 := Lib.hid hT1
          clear hT1
          go_cut [11] from 22 to 114 (fun s11 wx => s11 = .int .u32 ((Sh.t2 st).toNat : Int) ∧ ∃ n, wx = wr.drewN n)
          case first =>
            go_quiet ((go_at_call 41; exact quiet_add_same (same_right (sharight _ _ (by decide) _))))
            first | rw [e_t2] | rw [e_t2w]
            go_wp2_with fail
            go_meet
            exact ⟨rfl, _, drewN_twice _ _ _⟩
          case rest =>
            obtain ⟨rfl, n, rfl⟩ := hcut
            generalize hT2 : Sh.t2 st = T2 at *
            have HT2 := Lib.hid hT2
            clear hT2
            obtain ⟨wq, hwq⟩ : ∃ wq, wq = wr.drewN n := ⟨_, rfl⟩
            rw [← hwq]
            have R0 : Hid (wq.heap[g8]? = some (.cells #[.int .u32 (st.a.toNat : Int), .int .u32 (st.b.toNat : Int), .int .u32 (st.c.toNat : Int), .int .u32 (st.d.toNat : Int), .int .u32 (st.e.toNat : Int), .int .u32 (st.f.toNat : Int), .int .u32 (st.g.toNat : Int), .int .u32 (st.h.toNat : Int)] 43 (0, 0))) := by rw [hwq]; exact h8.out
            have V0 : wq.cell? ⟨g8, 0, none⟩ = some (.int .u32 (st.a.toNat : Int)) := by rw [hwq]; exact v0
            have V1 : wq.cell? ⟨g8, 1, none⟩ = some (.int .u32 (st.b.toNat : Int)) := by rw [hwq]; exact v1
            have V2 : wq.cell? ⟨g8, 2, none⟩ = some (.int .u32 (st.c.toNat : Int)) := by rw [hwq]; exact v2
            have V3 : wq.cell? ⟨g8, 3, none⟩ = some (.int .u32 (st.d.toNat : Int)) := by rw [hwq]; exact v3
            have V4 : wq.cell? ⟨g8, 4, none⟩ = some (.int .u32 (st.e.toNat : Int)) := by rw [hwq]; exact v4
            have V5 : wq.cell? ⟨g8, 5, none⟩ = some (.int .u32 (st.f.toNat : Int)) := by rw [hwq]; exact v5
            have V6 : wq.cell? ⟨g8, 6, none⟩ = some (.int .u32 (st.g.toNat : Int)) := by rw [hwq]; exact v6
            have V7 : wq.cell? ⟨g8, 7, none⟩ = some (.int .u32 (st.h.toNat : Int)) := by rw [hwq]; exact v7
            have K6 : Hid (wq.heap[g6]? = some (.cells (wcells ws).toArray 53 (0, 0))) := by rw [hwq]; exact h6.out
            have K7 : Hid (wq.heap[g7]? = some (.cells (wcells kl).toArray 53 (0, 0))) := by rw [hwq]; exact h7.out
            have KB : Hid (Below W0.heap.size W0 wq) := by rw [hwq]; exact below_drewN hB.out n
            have hi1 : (Try.prog.info? 42).map (·.size) = some 1 := by kernel_rfl
            have HI1 := Lib.hid hi1
            have HN6 := Lib.hid (type_ne h6.out h8.out (by decide))
            have HN7 := Lib.hid (type_ne h7.out h8.out (by decide))
            clear hi1 hwq v0 v1 v2 v3 v4 v5 v6 v7 z0 z1 z2 z3 z4 z5 z6 z7 cw ck h6 h7 h8 hB
            go_wp2_with (first
              | (refine wpList_store1 rfl 42 (.tmp 107) (.tmp 89) rfl g8 7 .u32 _ rfl rfl R0.out (by simp) HI1.out ?_; intro y1 r1 m1; have R1 := Lib.hid r1; have M1 := Lib.hid m1; clear r1 m1)
              | (refine wpList_store1 rfl 42 (.tmp 108) (.tmp 91) rfl g8 6 .u32 _ rfl rfl R1.out (by simp) HI1.out ?_; intro y2 r2 m2; have R2 := Lib.hid r2; have M2 := Lib.hid m2; clear r2 m2)
              | (refine wpList_store1 rfl 42 (.tmp 109) (.tmp 93) rfl g8 5 .u32 _ rfl rfl R2.out (by simp) HI1.out ?_; intro y3 r3 m3; have R3 := Lib.hid r3; have M3 := Lib.hid m3; clear r3 m3)
              | (refine wpList_store1 rfl 42 (.tmp 110) (.tmp 97) rfl g8 4 .u32 _ rfl rfl R3.out (by simp) HI1.out ?_; intro y4 r4 m4; have R4 := Lib.hid r4; have M4 := Lib.hid m4; clear r4 m4)
              | (refine wpList_store1 rfl 42 (.tmp 111) (.tmp 99) rfl g8 3 .u32 _ rfl rfl R4.out (by simp) HI1.out ?_; intro y5 r5 m5; have R5 := Lib.hid r5; have M5 := Lib.hid m5; clear r5 m5)
              | (refine wpList_store1 rfl 42 (.tmp 112) (.tmp 101) rfl g8 2 .u32 _ rfl rfl R5.out (by simp) HI1.out ?_; intro y6 r6 m6; have R6 := Lib.hid r6; have M6 := Lib.hid m6; clear r6 m6)
              | (refine wpList_store1 rfl 42 (.tmp 113) (.tmp 103) rfl g8 1 .u32 _ rfl rfl R6.out (by simp) HI1.out ?_; intro y7 r7 m7; have R7 := Lib.hid r7; have M7 := Lib.hid m7; clear r7 m7)
              | (refine wpList_store1 rfl 42 (.tmp 114) (.tmp 106) rfl g8 0 .u32 _ rfl rfl R7.out (by simp) HI1.out ?_; intro y8 r8 m8; have R8 := Lib.hid r8; have M8 := Lib.hid m8; clear r8 m8))
            have r8 := R8.out
            simp only [List.setIfInBounds_toArray, List.set_cons_zero, List.set_cons_succ, u_add] at r8
            have E8 : Hid (y8.heap[g8]? = some (.cells (wcells (Sh.stL (rr (k + 1)))).toArray 43 (0, 0))) := by
              unfold RowKit.Hid
              rw [HR.out]
              unfold Sh.rnd
              rw [HT1.out, HT2.out]
              exact r8
            clear r8
            have b1 := below_by KB.out M1.out KB.out.size q8
            have b2 := below_by b1 M2.out b1.size q8
            have b3 := below_by b2 M3.out b2.size q8
            have b4 := below_by b3 M4.out b3.size q8
            have b5 := below_by b4 M5.out b4.size q8
            have b6 := below_by b5 M6.out b5.size q8
            have b7 := below_by b6 M7.out b6.size q8
            have b8 := Lib.hid (below_by b7 M8.out b7.size q8)
            have O6 := Lib.hid (other_by M8.out HN6.out (other_by M7.out HN6.out (other_by M6.out HN6.out (other_by M5.out HN6.out (other_by M4.out HN6.out (other_by M3.out HN6.out (other_by M2.out HN6.out (other_by M1.out HN6.out K6.out))))))))
            have O7 := Lib.hid (other_by M8.out HN7.out (other_by M7.out HN7.out (other_by M6.out HN7.out (other_by M5.out HN7.out (other_by M4.out HN7.out (other_by M3.out HN7.out (other_by M2.out HN7.out (other_by M1.out HN7.out K7.out))))))))
            clear b1 b2 b3 b4 b5 b6 b7
            go_roundw
            case rel => exact ⟨k + 1, by omega, by go_num, O6, O7, E8, b8⟩
            case measure => simp [intOf]; omega
      · obtain rfl : k = 64 := by omega
        rw [show ((64 : Nat) : Int) = 64 from rfl]
        have HP : Hid (fin = Sh.plus s (rr 64)) := by
          unfold RowKit.Hid
          rw [← HFIN.out]
          unfold Sh.step
          rw [HRR.out]
        clear HFIN HRR
        generalize rr 64 = vv at *
        clear h6 h7 HR0 HSt H8' H6 H7 H8 HB HL6 HL7
        have h8' : Hid (wr.heap[g8]? = some (.cells (wcells (addTo (Sh.stL s) (Sh.stL vv) 0)).toArray 43 (0, 0))) := h8
        go_wp2_with fail
        go_loopw [116] (fun i wq => ∃ k : Nat, k ≤ 8 ∧ i = .int .i64 k ∧ Hid (wq.heap[g8]? = some (.cells (wcells (addTo (Sh.stL s) (Sh.stL vv) k)).toArray 43 (0, 0))) ∧ Hid (Below W0.heap.size W0 wq)) (fun i _ => 8 - (intOf i).toNat)
        case atStart => exact ⟨0, by omega, rfl, h8', hB⟩
        case round =>
          obtain ⟨k, hk, rfl, hg, hB⟩ := hrel
          by_cases hlt : k < 8
          · as_aux_lemma =>
              obtain ⟨x, y, hx, hy, hxy⟩ := addTo_step s vv k hlt
              have c1 := (cell_of_row wr g8 k _ _ (0, 0) hg.out).trans (wcells_get hx)
              have f1 := frozen_of_row wr g8 k _ _ hg.out
              have c2 := (cell_of_row wr w.heap.size k _ _ (0, 0) ((hB.out.block _ (by have := HZ0.out; omega)).trans HB0.out)).trans (wcells_get hy)
              have HN : Hid (∀ n, ((wr.drewN n).setCell ⟨g8, k, none⟩ (.int .u32 ((x + y).toNat : Int))).heap[g8]? = some (.cells (wcells (addTo (Sh.stL s) (Sh.stL vv) (k + 1))).toArray 43 (0, 0))) := fun n => by
                have := heap_setCell_same (wr.drewN n) g8 k _ _ (.int .u32 ((x + y).toNat : Int)) hg.out
                rw [wcells_set, hxy] at this
                exact this
              have HNB : Hid (∀ n u, Below W0.heap.size W0 ((wr.drewN n).setCell ⟨g8, k, none⟩ u)) := fun n u => (below_drewN hB.out n).setCell q8 u
              have r0 : (0 : Int) ≤ k := by omega
              have r1 : (k : Int) < 8 := by omega
              clear hx hy hxy
              go_wp2_with fail
              go_still_tail 8, (by kernel_rfl)
              change wpList _ _ _ _ _ wr.drew
              go_wp2_with fail
              rw [u_add]
              have HN1 := Lib.hid (HN.out 1)
              have HB1 := Lib.hid (HNB.out 1 (.int .u32 ((x + y).toNat : Int)))
              go_roundw
              case rel => exact ⟨k + 1, by omega, by go_num, HN1, HB1⟩
              case measure => simp [intOf]; omega
          · as_aux_lemma =>
              obtain rfl : k = 8 := by omega
              have hlast : addTo (Sh.stL s) (Sh.stL vv) 8 = Sh.stL (Sh.plus s vv) := rfl
              rw [hlast, ← HP.out] at hg
              have HR1 := Lib.hid ((hB.out.block _ (by have := HZ0.out; omega)).trans HB1.out)
              have hi : (Try.prog.info? 43).map (·.size) = some 8 := by kernel_rfl
              have HI := Lib.hid hi
              have HS8 : Hid ((wcells (Sh.stL fin)).toArray.size = 8) := by unfold RowKit.Hid; rw [List.size_toArray, wcells_length, stL_len]
              clear hi hlast
              clear HP HB0 HS
              go_wp2_with (first
                | refine wpList_load_row rfl 43 (.tmp 8) rfl g8 rfl _ _ _ (.array 8 42) hg.out (by kernel_rfl) rfl (by rw [HI.out, HS8.out]) ?_
                | refine wpList_store_row rfl 43 (.tmp 4) (.tmp 128) rfl (w.heap.size + 1) (wcells (Sh.stL fin)).toArray rfl rfl _ _ HR1.out (by rw [HI.out, HS8.out]) rfl (wcells_one _) ?_)
              exact bodyPost_ret (v := .tuple #[.agg (wcells (Sh.stL fin)).toArray, .int .i64 0]) (results_row_tmp (P := Try.prog) (d := .array 8 42) rfl _ _ (w.heap.size + 1) _ _ _ _ rfl (setRow_heap _ _ _ _ _ _ HR1.out) (by kernel_rfl) rfl (by rw [HI.out, HS8.out]) rfl) rfl ⟨rfl, below_setRow (HBW.out.trans (hB.out.mono (by have := HZ0.out; omega))) (by omega)⟩
theorem shastep_ok : StepOk := fun s b A c w hA hl => shastep_aux s _ b A c w hA hl rfl
end Go.Proofs.Ytofjfpnkdcpngaa
