/-
  The instruction at a place of bytes: the function Read of the package isa.
-/
import Derived.Test.YtefnmpococnepaaIsaC
import Derived.Test.YtefnmpococnepaaOctA
namespace Go.Proofs.Ytefnmpococnepaa
open Go.RowKit Mem

/-- the instruction at a place, the place behind it, and the error -/
def readAt (bs : List UInt8) (a : Int) : Ia.Ins × Int × Int :=
  if a < 0 ∨ (bs.length : Int) < a then (Ia.nil, 0, 1)
  else if (Ia.readB (bs.drop a.toNat)).2.2 ≠ 0 then (Ia.nil, 0, (Ia.readB (bs.drop a.toNat)).2.2)
  else ((Ia.readB (bs.drop a.toNat)).1, a + (Ia.readB (bs.drop a.toNat)).2.1, 0)
def insAgg (i : Ia.Ins) : Value := .agg #[.int .i64 i.op, .int .i32 i.n]
theorem ret_ins {fn : Func} {R : Ending → World → Prop} {a : Act} {W : World} {g : Nat} {v0 v1 x y : Value} (s t u : Nat) (hr : fn.results = #[.cell s 25, .tmp t, .tmp u])
    (h2 : a.tmps.getD s undef = .pointer (some ⟨g, 0, none⟩)) (h3 : a.tmps.getD t undef = x) (h4 : a.tmps.getD u undef = y) (hd : a.defers = [])
    (c0 : W.cell? ⟨g, 0, none⟩ = some v0) (c1 : W.cell? ⟨g, 1, none⟩ = some v1)
    (hR : R (.returned (.tuple #[.agg #[v0, v1], x, y])) W) : bodyPost Try.prog fn R .ret a W := by
  refine bodyPost_ret ?_ hd hR
  have h2' : a.tmps[s]?.getD undef = .pointer (some ⟨g, 0, none⟩) := by simpa using h2
  have h3' : a.tmps[t]?.getD undef = x := by simpa using h3
  have h4' : a.tmps[u]?.getD undef = y := by simpa using h4
  simp [results, hr, h2', h3', h4', go_sem, c0, c1]
/-- two new blocks of two cells, and what came of a world that only grew -/
theorem two_new {w w1 : World} {a b c d : Value} {t t' : TypeId} (hb : Below ((w.alloc (.cells #[a, b] t)).alloc (.cells #[c, d] t')).heap.size ((w.alloc (.cells #[a, b] t)).alloc (.cells #[c, d] t')) w1) :
    w1.cell? ⟨w.heap.size, 0, none⟩ = some a ∧ w1.cell? ⟨w.heap.size, 1, none⟩ = some b ∧ w1.cell? ⟨w.heap.size + 1, 0, none⟩ = some c ∧ w1.cell? ⟨w.heap.size + 1, 1, none⟩ = some d ∧
    w1.frozen? ⟨w.heap.size, 0, none⟩ = false ∧ w1.frozen? ⟨w.heap.size, 1, none⟩ = false ∧ w1.frozen? ⟨w.heap.size + 1, 0, none⟩ = false ∧ w1.frozen? ⟨w.heap.size + 1, 1, none⟩ = false ∧
    w.heap.size + 1 < w1.heap.size ∧ Below w.heap.size w w1 := by
  have hs : (w.alloc (.cells #[a, b] t)).heap.size = w.heap.size + 1 := by simp
  have h0 : w1.heap[w.heap.size]? = some (.cells #[a, b] t (0, 0)) := by
    rw [hb.block _ (by simp; omega), heap_alloc_old _ _ (by simp), heap_alloc_new]
  have h1 : w1.heap[w.heap.size + 1]? = some (.cells #[c, d] t' (0, 0)) := by
    rw [hb.block _ (by simp), ← hs, heap_alloc_new]
  refine ⟨cell_of_row _ _ 0 _ _ _ h0, cell_of_row _ _ 1 _ _ _ h0, cell_of_row _ _ 0 _ _ _ h1, cell_of_row _ _ 1 _ _ _ h1, by simp [World.frozen?, h0], by simp [World.frozen?, h0], by simp [World.frozen?, h1], by simp [World.frozen?, h1], ?_, ?_⟩
  · have := hb.size; simp at this; omega
  · exact (((Below.refl _ _).alloc (Nat.le_refl _) _).alloc (by simp) _).trans (hb.mono (by simp; omega))
theorem set2 {W : World} {g : Nat} {a b : Value} (x0 x1 : Value) (k0 : W.cell? ⟨g, 0, none⟩ = some a) (k1 : W.cell? ⟨g, 1, none⟩ = some b) :
    ((W.setCell ⟨g, 0, none⟩ x0).setCell ⟨g, 1, none⟩ x1).cell? ⟨g, 0, none⟩ = some x0 ∧ ((W.setCell ⟨g, 0, none⟩ x0).setCell ⟨g, 1, none⟩ x1).cell? ⟨g, 1, none⟩ = some x1 := by
  refine ⟨?_, ?_⟩ <;> simp [go_sem, k0, k1]
theorem get_one (bs : List UInt8) (a : Int) (h : a < 0 ∨ (bs.length : Int) ≤ a) : get bs a 1 = (0, (readAt bs a).2.2) ∧ readAt bs a = (Ia.nil, 0, (readAt bs a).2.2) ∧ (readAt bs a).2.2 ≠ 0 := by
  unfold get readAt
  by_cases h1 : a < 0 ∨ (bs.length : Int) < a
  · rw [if_pos (by omega), if_pos h1]
    exact ⟨rfl, rfl, by decide⟩
  · have ha : a = bs.length := by omega
    subst ha
    rw [if_neg (by omega), if_pos (by omega), if_neg (by omega)]
    have e : (Ia.readB (bs.drop (bs.length : Int).toNat)) = (Ia.nil, 0, 2) := by
      rw [Int.toNat_natCast, List.drop_length]; rfl
    rw [e]
    exact ⟨rfl, rfl, by show (2 : Int) ≠ 0; decide⟩
set_option maxHeartbeats 4000000 in
theorem isaread_bad (bs : List UInt8) (A : Option Addr) (c : Nat) (a : Int) (w : World) (hA : BytesAt w A bs) (hn : bs.length ≤ 4611686018427387904) (ha1 : -9223372036854775808 ≤ a) (ha2 : a ≤ 9223372036854775807)
    (h : a < 0 ∨ (bs.length : Int) ≤ a) :
    Calls Try.prog 11 #[.slice A bs.length c, .int .i64 a] w fun e w' => e = .returned (.tuple #[insAgg (readAt bs a).1, .int .i64 (readAt bs a).2.1, .int .i64 (readAt bs a).2.2]) ∧ Below w.heap.size w w' := by
  have HA := Lib.hid hA
  clear hA
  obtain ⟨h1, h2, h3⟩ := get_one bs a h
  rw [h2]
  have he : ((readAt bs a).2.2 != 0) = true := by rw [bne_iff_ne]; exact h3
  have HG := Lib.hid h1
  clear h2 h3 h h1
  generalize (readAt bs a).2.2 = er at *
  unfold insAgg Ia.nil
  go_enter Try.func11, Try.ntmps11
  go_wp2_with fail
  have hb : Below w.heap.size w (w.alloc (Obj.cells #[Value.int IntKind.i64 0, Value.int IntKind.i32 0] 25)) := (Below.refl _ _).alloc (Nat.le_refl _) _
  refine (octget bs A c a 1 _ (HA.out.below hb (Nat.le_refl _)) hn (by omega) (by omega) ha1 ha2).mono ?_
  rintro e w1 ⟨rfl, rfl⟩
  rw [show ((1 : Nat) : Int) = 1 from rfl, HG.out]
  go_wp2_with fail
  exact ret_ins 4 5 6 rfl rfl rfl rfl rfl (below_new (Below.refl _ _) 0).1 (below_new (Below.refl _ _) 1).1 ⟨rfl, hb⟩
/-- what is read at a place within -/
theorem get_in (bs : List UInt8) (p : Nat) (h : p < bs.length) : get bs p 1 = ((bs[p]'h).toNat, 0) := by
  unfold get
  rw [if_neg (by omega), if_neg (by omega), Int.toNat_natCast, List.drop_eq_getElem_cons h, show ((1 : Int)).toNat = 1 from rfl, List.take_succ_cons, List.take_zero]
  show ((bs[p]'h).toNat + 256 * 0, (0 : Int)) = _
  rfl
theorem get_rest (bs : List UInt8) (p wd : Nat) (h : p < bs.length) (h1 : 1 ≤ wd) (h8 : wd ≤ 8) : get bs ((p : Int) + 1) wd = if (bs.drop (p + 1)).length < wd then (0, 2) else (Ia.unle ((bs.drop (p + 1)).take wd), 0) := by
  unfold get
  rw [if_neg (by omega), List.length_drop]
  by_cases hs : bs.length - (p + 1) < wd
  · rw [if_pos (by omega), if_pos hs]
  · rw [if_neg (by omega), if_neg hs, show ((p : Int) + 1).toNat = p + 1 by omega, show ((wd : Int)).toNat = wd by omega]
theorem readAt_of {bs : List UInt8} {p : Nat} {i : Ia.Ins} {n : Nat} {e : Int} (hp : p ≤ bs.length) (hR : Ia.readB (bs.drop p) = (i, n, e)) : readAt bs p = if e ≠ 0 then (Ia.nil, 0, e) else (i, (p : Int) + n, 0) := by
  unfold readAt
  rw [if_neg (by omega), Int.toNat_natCast, hR]
theorem read_in (bs : List UInt8) (p : Nat) (h : p < bs.length) : readAt bs p =
    if Ia.form (bs[p]'h).toNat = 0 then (Ia.nil, 0, 9)
    else if (bs.drop (p + 1)).length < Ia.form (bs[p]'h).toNat then (Ia.nil, 0, 2)
    else if Ia.right ⟨(bs[p]'h).toNat, Ia.signedN (Ia.unle ((bs.drop (p + 1)).take (Ia.form (bs[p]'h).toNat)))⟩ ≠ 0 then (Ia.nil, 0, Ia.right ⟨(bs[p]'h).toNat, Ia.signedN (Ia.unle ((bs.drop (p + 1)).take (Ia.form (bs[p]'h).toNat)))⟩)
    else (⟨(bs[p]'h).toNat, Ia.signedN (Ia.unle ((bs.drop (p + 1)).take (Ia.form (bs[p]'h).toNat)))⟩, (p : Int) + 1 + Ia.form (bs[p]'h).toNat, 0) := by
  have hd := List.drop_eq_getElem_cons h
  by_cases h1 : Ia.form (bs[p]'h).toNat = 0
  · have hR : Ia.readB (bs.drop p) = (Ia.nil, 0, 9) := by rw [hd]; unfold Ia.readB; dsimp only; rw [if_pos h1]
    rw [if_pos h1, readAt_of (by omega) hR]; rfl
  · rw [if_neg h1]
    by_cases h2 : (bs.drop (p + 1)).length < Ia.form (bs[p]'h).toNat
    · have hR : Ia.readB (bs.drop p) = (Ia.nil, 0, 2) := by rw [hd]; unfold Ia.readB; dsimp only; rw [if_neg h1, if_pos h2]
      rw [if_pos h2, readAt_of (by omega) hR]; rfl
    · rw [if_neg h2]
      by_cases h3 : Ia.right ⟨(bs[p]'h).toNat, Ia.signedN (Ia.unle ((bs.drop (p + 1)).take (Ia.form (bs[p]'h).toNat)))⟩ ≠ 0
      · have hR : Ia.readB (bs.drop p) = (Ia.nil, 0, Ia.right ⟨(bs[p]'h).toNat, Ia.signedN (Ia.unle ((bs.drop (p + 1)).take (Ia.form (bs[p]'h).toNat)))⟩) := by rw [hd]; unfold Ia.readB; dsimp only; rw [if_neg h1, if_neg h2, if_pos h3]
        rw [if_pos h3, readAt_of (by omega) hR, if_pos h3]
      · have hR : Ia.readB (bs.drop p) = (⟨(bs[p]'h).toNat, Ia.signedN (Ia.unle ((bs.drop (p + 1)).take (Ia.form (bs[p]'h).toNat)))⟩, 1 + Ia.form (bs[p]'h).toNat, 0) := by rw [hd]; unfold Ia.readB; dsimp only; rw [if_neg h1, if_neg h2, if_neg h3]
        rw [if_neg h3, readAt_of (by omega) hR, if_neg (by decide), Int.natCast_add, ← Int.add_assoc]; rfl
set_option maxHeartbeats 4000000 in
theorem isaread_in (bs : List UInt8) (A : Option Addr) (c : Nat) (p : Nat) (w : World) (hA : BytesAt w A bs) (hn : bs.length ≤ 4611686018427387904)
    (h : p < bs.length) :
    Calls Try.prog 11 #[.slice A bs.length c, .int .i64 p] w fun e w' => e = .returned (.tuple #[insAgg (readAt bs p).1, .int .i64 (readAt bs p).2.1, .int .i64 (readAt bs p).2.2]) ∧ Below w.heap.size w w' := by
  have HA := Lib.hid hA
  clear hA
  have HG := Lib.hid (get_in bs p h)
  have hr := read_in bs p h
  have hcb : ((bs[p]'h).toNat : Int) ≤ 255 := by have := (bs[p]'h).toNat_lt; omega
  have hgr := get_rest bs p (Ia.form (bs[p]'h).toNat) h
  generalize hcc : (bs[p]'h).toNat = cc at *
  clear hcc
  have hb : Below w.heap.size w (w.alloc (Obj.cells #[Value.int IntKind.i64 0, Value.int IntKind.i32 0] 25)) := (Below.refl _ _).alloc (Nat.le_refl _) _
  by_cases h0 : Ia.form cc = 0
  · rw [if_pos h0] at hr
    rw [hr]
    have H0 := Lib.hid h0
    clear h0 hr hgr
    unfold insAgg Ia.nil
    go_enter Try.func11, Try.ntmps11
    go_wp2_with fail
    refine (octget bs A c p 1 _ (HA.out.below hb (Nat.le_refl _)) hn (by omega) (by omega) (by omega) (by omega)).mono ?_
    rintro e w1 ⟨rfl, rfl⟩
    rw [show ((1 : Nat) : Int) = 1 from rfl, HG.out]
    go_wp2_with fail
    refine (isaform _ _).mono ?_
    rintro e w1 ⟨rfl, rfl⟩
    rw [H0.out]
    go_wp2_with fail
    exact ret_ins 4 5 6 rfl rfl rfl rfl rfl (below_new (Below.refl _ _) 0).1 (below_new (Below.refl _ _) 1).1 ⟨rfl, hb⟩
  · rw [if_neg h0] at hr
    have hf := Ia.form_le cc
    replace hgr := hgr (by omega) (by omega)
    have H0 := Lib.hid h0
    have hw4 : Ia.form cc ≤ 4 := by omega
    have hw1 : 1 ≤ Ia.form cc := by omega
    have hz : ((Ia.form cc : Int) == 0) = false := by rw [beq_eq_false_iff_ne]; omega
    generalize hwd : Ia.form cc = wd at *
    have HW := Lib.hid hwd
    clear hwd h0 hf
    by_cases hs : (bs.drop (p + 1)).length < wd
    · rw [if_pos hs] at hr hgr
      rw [hr]
      have HG2 := Lib.hid hgr
      clear hr hgr
      unfold insAgg Ia.nil
      go_enter Try.func11, Try.ntmps11
      go_wp2_with fail
      refine (octget bs A c p 1 _ (HA.out.below hb (Nat.le_refl _)) hn (by omega) (by omega) (by omega) (by omega)).mono ?_
      rintro e w1 ⟨rfl, rfl⟩
      rw [show ((1 : Nat) : Int) = 1 from rfl, HG.out]
      go_wp2_with fail
      refine (isaform _ _).mono ?_
      rintro e w1 ⟨rfl, rfl⟩
      rw [HW.out]
      go_wp2_with fail
      refine (octget bs A c ((p : Int) + 1) wd _ (HA.out.below hb (Nat.le_refl _)) hn (by omega) (by omega) (by omega) (by omega)).mono ?_
      rintro e w1 ⟨rfl, rfl⟩
      rw [HG2.out]
      go_wp2_with fail
      exact ret_ins 4 5 6 rfl rfl rfl rfl rfl (below_new (Below.refl _ _) 0).1 (below_new (Below.refl _ _) 1).1 ⟨rfl, hb⟩
    · rw [if_neg hs] at hr hgr
      have hU : Ia.unle ((bs.drop (p + 1)).take wd) < 256 ^ 4 := by
        refine Nat.lt_of_lt_of_le (Ia.unle_lt _) (Nat.pow_le_pow_right (by omega) ?_)
        rw [List.length_take]
        omega
      have HG2 := Lib.hid hgr
      generalize hu : Ia.unle ((bs.drop (p + 1)).take wd) = U at *
      clear hgr hu
      have hpl : p + 1 + wd ≤ bs.length := by rw [List.length_drop] at hs; omega
      clear hs
      by_cases h3 : Ia.right ⟨cc, Ia.signedN U⟩ ≠ 0
      · rw [if_pos h3] at hr
        rw [hr]
        have h3b : ((Ia.right ⟨cc, Ia.signedN U⟩) != 0) = true := by rw [bne_iff_ne]; exact h3
        generalize hrt : Ia.right ⟨cc, Ia.signedN U⟩ = rt at *
        have HRT := Lib.hid hrt
        clear hr h3 hrt
        unfold insAgg Ia.nil
        go_enter Try.func11, Try.ntmps11
        go_wp2_with fail
        refine (octget bs A c p 1 _ (HA.out.below hb (Nat.le_refl _)) hn (by omega) (by omega) (by omega) (by omega)).mono ?_
        rintro e w1 ⟨rfl, rfl⟩
        rw [show ((1 : Nat) : Int) = 1 from rfl, HG.out]
        go_wp2_with fail
        refine (isaform _ _).mono ?_
        rintro e w1 ⟨rfl, rfl⟩
        rw [HW.out]
        go_wp2_with fail
        refine (octget bs A c ((p : Int) + 1) wd _ (HA.out.below hb (Nat.le_refl _)) hn (by omega) (by omega) (by omega) (by omega)).mono ?_
        rintro e w1 ⟨rfl, rfl⟩
        rw [HG2.out]
        go_wp2_with fail
        refine (octsigned U (by omega) _).mono ?_
        rintro e w1 ⟨rfl, rfl⟩
        go_wp2_with fail
        refine (isaright ⟨cc, Ia.signedN U⟩ _).mono ?_
        rintro e w1 ⟨rfl, hb1⟩
        rw [HRT.out]
        obtain ⟨k0, k1, k2, k3, f0, f1, f2, f3, hz1, hb1⟩ := two_new hb1
        have HB1 := Lib.hid hb1
        clear hb1
        go_wp2_with fail
        obtain ⟨e0, e1⟩ := set2 (.int .i64 0) (.int .i32 0) k0 k1
        exact ret_ins 4 5 6 rfl rfl rfl rfl rfl e0 e1 ⟨rfl, (HB1.out.setCell (Nat.le_refl _) _).setCell (Nat.le_refl _) _⟩
      · rw [if_neg h3] at hr
        rw [hr]
        have hrt : Ia.right ⟨cc, Ia.signedN U⟩ = 0 := by omega
        have HRT := Lib.hid hrt
        clear hr h3 hrt
        unfold insAgg
        go_enter Try.func11, Try.ntmps11
        go_wp2_with fail
        refine (octget bs A c p 1 _ (HA.out.below hb (Nat.le_refl _)) hn (by omega) (by omega) (by omega) (by omega)).mono ?_
        rintro e w1 ⟨rfl, rfl⟩
        rw [show ((1 : Nat) : Int) = 1 from rfl, HG.out]
        go_wp2_with fail
        refine (isaform _ _).mono ?_
        rintro e w1 ⟨rfl, rfl⟩
        rw [HW.out]
        go_wp2_with fail
        refine (octget bs A c ((p : Int) + 1) wd _ (HA.out.below hb (Nat.le_refl _)) hn (by omega) (by omega) (by omega) (by omega)).mono ?_
        rintro e w1 ⟨rfl, rfl⟩
        rw [HG2.out]
        go_wp2_with fail
        refine (octsigned U (by omega) _).mono ?_
        rintro e w1 ⟨rfl, rfl⟩
        go_wp2_with fail
        refine (isaright ⟨cc, Ia.signedN U⟩ _).mono ?_
        rintro e w1 ⟨rfl, hb1⟩
        rw [HRT.out]
        obtain ⟨k0, k1, k2, k3, f0, f1, f2, f3, hz1, hb1⟩ := two_new hb1
        have HB1 := Lib.hid hb1
        clear hb1
        go_wp2_with fail
        obtain ⟨e0, e1⟩ := set2 (.int .i64 cc) (.int .i32 (Ia.signedN U)) k0 k1
        exact ret_ins 4 5 6 rfl rfl rfl rfl rfl e0 e1 ⟨rfl, (HB1.out.setCell (Nat.le_refl _) _).setCell (Nat.le_refl _) _⟩
/-- the instruction at any place -/
theorem isaread (bs : List UInt8) (A : Option Addr) (c : Nat) (a : Int) (w : World) (hA : BytesAt w A bs) (hn : bs.length ≤ 4611686018427387904) (ha1 : -9223372036854775808 ≤ a) (ha2 : a ≤ 9223372036854775807) :
    Calls Try.prog 11 #[.slice A bs.length c, .int .i64 a] w fun e w' => e = .returned (.tuple #[insAgg (readAt bs a).1, .int .i64 (readAt bs a).2.1, .int .i64 (readAt bs a).2.2]) ∧ Below w.heap.size w w' := by
  by_cases h : a < 0 ∨ (bs.length : Int) ≤ a
  · exact isaread_bad bs A c a w hA hn ha1 ha2 h
  · obtain ⟨p, rfl⟩ := Int.eq_ofNat_of_zero_le (show 0 ≤ a by omega)
    exact isaread_in bs A c p w hA hn (by omega)
end Go.Proofs.Ytefnmpococnepaa
