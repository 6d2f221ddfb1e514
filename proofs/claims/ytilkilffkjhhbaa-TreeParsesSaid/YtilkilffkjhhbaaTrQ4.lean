/-
  The function first: a literal with fby behind it.
-/
import Derived.Test.YtilkilffkjhhbaaTrPb
namespace Go.Proofs.Ytilkilffkjhhbaa
set_option maxRecDepth 20000
set_option linter.unusedVariables false
open Go.RowKit Tr Mem

/-- what first hands back -/
def FirstPost (w : World) (bp : Nat) (A : Option Addr) (c : Nat) (ts : List Lx.Tok) (s : St) : Option (Ex × St) → Ending → World → Prop
  | some (x, s2), e, w' => ∃ A' c', e = .returned (.tuple #[exAgg x A' c', .bool true]) ∧ At w' (fun b => w.heap.size ≤ b) x A' ∧ Took w bp 61 A c ts s2 w'
  | none, e, w' => e = .returned (.tuple #[exAgg Ex.zero none 0, .bool false]) ∧ Took w bp 61 A c ts s w'
theorem row6 {w : World} {bp : Nat} {ty : TypeId} {A : Option Addr} {c : Nat} {ts : List Lx.Tok} {s : St} (h : RowAt w bp ty A c ts s) :
    w.cell? ⟨bp, 0, none⟩ = some (.slice A ts.length c) ∧ w.cell? ⟨bp, 1, none⟩ = some (.int .i64 (s.at_ : Int)) ∧ w.cell? ⟨bp, 2, none⟩ = some (.bool s.bad) ∧ w.frozen? ⟨bp, 0, none⟩ = false ∧ w.frozen? ⟨bp, 1, none⟩ = false ∧ w.frozen? ⟨bp, 2, none⟩ = false :=
  ⟨cell_of_row w bp 0 _ _ _ h.row, cell_of_row w bp 1 _ _ _ h.row, cell_of_row w bp 2 _ _ _ h.row, frozen_of_row w bp 0 _ _ h.row, frozen_of_row w bp 1 _ _ h.row, frozen_of_row w bp 2 _ _ h.row⟩
theorem row3 {W : World} {g : Nat} {a b c : Value} {t : TypeId} (h : W.heap[g]? = some (.cells #[a, b, c] t (0, 0))) : W.cell? ⟨g, 0, none⟩ = some a ∧ W.cell? ⟨g, 1, none⟩ = some b ∧ W.cell? ⟨g, 2, none⟩ = some c :=
  ⟨cell_of_row W g 0 _ _ _ h, cell_of_row W g 1 _ _ _ h, cell_of_row W g 2 _ _ _ h⟩
/-- the place is set back -/
theorem Took.back {w W : World} {bp : Nat} {ty : TypeId} {A : Option Addr} {c : Nat} {ts : List Lx.Tok} {s s0 : St} (h : Took w bp ty A c ts s W) (hle : s0.at_ ≤ ts.length) :
    Took w bp ty A c ts s0 (((W.setCell ⟨bp, 0, none⟩ (.slice A ts.length c)).setCell ⟨bp, 1, none⟩ (.int .i64 (s0.at_ : Int))).setCell ⟨bp, 2, none⟩ (.bool s0.bad)) := by
  have hg : W.grownBy (((W.setCell ⟨bp, 0, none⟩ (.slice A ts.length c)).setCell ⟨bp, 1, none⟩ (.int .i64 (s0.at_ : Int))).setCell ⟨bp, 2, none⟩ (.bool s0.bad)) (some bp) := World.grownBy.trans (World.grownBy.trans (grown_setCell _ _ _ _) (grown_setCell _ _ _ _)) (grown_setCell _ _ _ _)
  refine ⟨⟨?_, toks_other h.1.toks hg (fun _ => h.1.ne), h.1.ne, hle, h.1.len⟩, World.grownBy.trans h.2 hg⟩
  rw [heap_setCell_same _ bp 2 _ _ _ (heap_setCell_same _ bp 1 _ _ _ (heap_setCell_same _ bp 0 _ _ _ h.1.row))]
  rfl
theorem Took.step {w W : World} {bp : Nat} {ty : TypeId} {A : Option Addr} {c : Nat} {ts : List Lx.Tok} {s : St} (h : Took w bp ty A c ts s W) (hlt : s.at_ < ts.length) : Took w bp ty A c ts s.adv (W.setCell ⟨bp, 1, none⟩ (.int .i64 ((s.at_ : Int) + 1))) :=
  ⟨h.1.setAt hlt, World.grownBy.trans h.2 (grown_setCell _ _ _ _)⟩
theorem set3_keep {W : World} {g g' : Nat} {O : Obj} (h : W.heap[g']? = some O) (hne : g' ≠ g) (x0 x1 x2 : Value) : (((W.setCell ⟨g, 0, none⟩ x0).setCell ⟨g, 1, none⟩ x1).setCell ⟨g, 2, none⟩ x2).heap[g']? = some O :=
  set1_keep (set1_keep (set1_keep h hne _) hne _) hne _
theorem isKind_kd {ts : List Lx.Tok} {s : St} {k kd nn pl : Int} {tx : Lx.Bs} (hcu : cur ts s = ⟨kd, tx, nn, pl⟩) (hk : k ≠ 0) : (kd == k) = isKind ts s k := by
  rw [isKind_cur, hcu]
  rcases hh : has ts s with _ | _
  · rw [cur_no hh] at hcu
    injection hcu with h0
    rw [← h0]
    simp [hk.symm]
  · rfl
theorem tok_n {ts : List Lx.Tok} {s : St} {k kd nn pl : Int} {tx : Lx.Bs} (hcu : cur ts s = ⟨kd, tx, nn, pl⟩) (h : isKind ts s k = true) : (Tr.tok ts s).n = nn := by
  have hh : has ts s = true := by
    rw [isKind_cur, Bool.and_eq_true] at h; exact h.1
  rw [tok_cur hh, hcu]

set_option maxRecDepth 100000 in
set_option maxHeartbeats 16000000 in
theorem first_c (bp : Nat) (A : Option Addr) (c : Nat) (ts : List Lx.Tok) (s : St) (h0 : sees ts s [45] = true) (h1 : isKind ts s.adv 2 = false) (w : World) (h : RowAt w bp 61 A c ts s) :
    Calls Try.prog 68 #[.pointer (some ⟨bp, 0, none⟩)] w (FirstPost w bp A c ts s (none)) := by
  have HR := Lib.hid h
  have hbw := h.lt
  have hlen := h.len
  have hle0 := h.le
  obtain ⟨q0, q1, q2, q3, q4, q5⟩ := row6 h
  clear h

  have HTM := Lib.hid (fun W h => take_any bp A c ts s [45] W h)
  rw [h0, if_pos rfl] at HTM
  have HNX := Lib.hid (next_any bp A c ts s.adv)
  generalize hcu : cur ts s.adv = cu at *
  generalize has ts s.adv = hh at *
  obtain ⟨kd, tx, nn, pl⟩ := cu
  unfold tokAgg at HNX
  dsimp only at *
  have hkd := isKind_kd (k := 2) hcu (by decide)
  rw [h1] at hkd
  clear h0 h1 hcu
  go_enter Try.func68, Try.ntmps68
  go_wp2_with fail
  obtain ⟨W0, hW0⟩ : ∃ W0, W0 = (w.alloc (.cells zrow 43)).alloc (.cells #[.slice A ts.length c, .int .i64 s.at_, .bool s.bad] 59) := ⟨_, rfl⟩
  unfold zrow at hW0
  rw [← hW0]
  have HZ0 : Hid (W0.heap[w.heap.size]? = some (.cells zrow 43 (0, 0))) := by rw [hW0]; exact row_alloc (heap_alloc_new _ _) _
  have HF0 : Hid (W0.heap[w.heap.size + 1]? = some (.cells #[.slice A ts.length c, .int .i64 s.at_, .bool s.bad] 59 (0, 0))) := by
    have h := heap_alloc_new (w.alloc (.cells zrow 43)) (.cells #[.slice A ts.length c, .int .i64 s.at_, .bool s.bad] 59)
    have e : (w.alloc (.cells zrow 43)).heap.size = w.heap.size + 1 := by simp
    rw [e] at h
    rw [hW0]; exact h
  have HK0 : Hid (Took w bp 61 A c ts s W0) := by rw [hW0]; exact ((took_refl HR.out).alloc _).alloc _
  clear hW0 q0 q1 q2 q3 q4 q5
  refine (HTM.out _ HK0.out.1).mono ?_
  rintro e w1 ⟨rfl, hk⟩
  have HY2 := Lib.hid (hk.row HZ0.out (by omega))
  have HY3 := Lib.hid (hk.row HF0.out (by omega))
  have HK4 := Lib.hid (HK0.out.trans hk)
  clear HZ0 HF0 HK0
  clear hk
  go_wp2_with fail
  have hz_HY2 := (Array.getElem?_eq_some_iff.1 HY2.out).1
  have hz_HY3 := (Array.getElem?_eq_some_iff.1 HY3.out).1
  obtain ⟨W5, hW⟩ : ∃ W, W = w1.alloc (.cells #[.int .i64 2, .int .i32 0, .string ⟨#[]⟩, .slice none 0 0] 43) := ⟨_, rfl⟩
  rw [← hW]
  have hbx : Below w1.heap.size w1 W5 := by rw [hW]; exact (Below.refl _ _).alloc (Nat.le_refl _) _
  have HN5 : Hid (W5.heap[w1.heap.size]? = some (.cells #[.int .i64 2, .int .i32 0, .string ⟨#[]⟩, .slice none 0 0] 43 (0, 0))) := by rw [hW]; exact heap_alloc_new _ _
  have hlo5 : w.heap.size < w1.heap.size := (Array.getElem?_eq_some_iff.1 HY2.out).1
  clear hW
  have HY6 := Lib.hid ((hbx.block _ (Array.getElem?_eq_some_iff.1 HY2.out).1).trans HY2.out)
  have HY7 := Lib.hid ((hbx.block _ (Array.getElem?_eq_some_iff.1 HY3.out).1).trans HY3.out)
  have HK8 := Lib.hid (HK4.out.below hbx)
  clear HY2 HY3 HK4
  clear hbx
  refine (HNX.out _ HK8.out.1).mono ?_
  rintro e wn ⟨rfl, hbn⟩
  have HY9 := Lib.hid ((hbn.block _ (Array.getElem?_eq_some_iff.1 HY6.out).1).trans HY6.out)
  have HY10 := Lib.hid ((hbn.block _ (Array.getElem?_eq_some_iff.1 HY7.out).1).trans HY7.out)
  have HY11 := Lib.hid ((hbn.block _ (Array.getElem?_eq_some_iff.1 HN5.out).1).trans HN5.out)
  have HK12 := Lib.hid (HK8.out.below hbn)
  clear HY6 HY7 HN5 HK8
  clear hbn
  go_upto_region 7 with (fail)
  have hz_HY9 := (Array.getElem?_eq_some_iff.1 HY9.out).1
  have hz_HY10 := (Array.getElem?_eq_some_iff.1 HY10.out).1
  have hz_HY11 := (Array.getElem?_eq_some_iff.1 HY11.out).1
  obtain ⟨W13, hW⟩ : ∃ W, W = wn.alloc (.cells #[.int .i64 kd, .string ⟨tx.toArray⟩, .int .i32 nn, .int .i64 pl] 40) := ⟨_, rfl⟩
  rw [← hW]
  have hbx : Below wn.heap.size wn W13 := by rw [hW]; exact (Below.refl _ _).alloc (Nat.le_refl _) _
  have HN13 : Hid (W13.heap[wn.heap.size]? = some (.cells #[.int .i64 kd, .string ⟨tx.toArray⟩, .int .i32 nn, .int .i64 pl] 40 (0, 0))) := by rw [hW]; exact heap_alloc_new _ _
  have hlo13 : w.heap.size < wn.heap.size := (Array.getElem?_eq_some_iff.1 HY9.out).1
  clear hW
  have HY14 := Lib.hid ((hbx.block _ (Array.getElem?_eq_some_iff.1 HY9.out).1).trans HY9.out)
  have HY15 := Lib.hid ((hbx.block _ (Array.getElem?_eq_some_iff.1 HY10.out).1).trans HY10.out)
  have HY16 := Lib.hid ((hbx.block _ (Array.getElem?_eq_some_iff.1 HY11.out).1).trans HY11.out)
  have HK17 := Lib.hid (HK12.out.below hbx)
  clear HY9 HY10 HY11 HK12
  clear hbx
  have hz_HY14 := (Array.getElem?_eq_some_iff.1 HY14.out).1
  have hz_HY15 := (Array.getElem?_eq_some_iff.1 HY15.out).1
  have hz_HY16 := (Array.getElem?_eq_some_iff.1 HY16.out).1
  have hz_HN13 := (Array.getElem?_eq_some_iff.1 HN13.out).1
  obtain ⟨t0, t1, t2, t3, t4, t5, t6, t7⟩ := row4 HN13.out
  obtain ⟨q0, q1, q2, q3, q4, q5⟩ := row6 HK17.out.1
  obtain ⟨k0, k1, k2, k3, k4, k5, k6, k7⟩ := row4 HY14.out
  obtain ⟨f0, f1, f2⟩ := row3 HY15.out
  go_upto_region 6 with (fail)
  obtain ⟨V18, hV⟩ : ∃ W, W = ((W13.setCell ⟨bp, 0, none⟩ (.slice A ts.length c)).setCell ⟨bp, 1, none⟩ (.int .i64 (s.at_ : Int))).setCell ⟨bp, 2, none⟩ (.bool s.bad) := ⟨_, rfl⟩
  rw [← hV]
  have HY19 : Hid (V18.heap[w.heap.size]? = some (.cells zrow 43 (0, 0))) := by rw [hV]; exact set3_keep HY14.out (by omega) _ _ _
  have HY20 : Hid (V18.heap[(w.heap.size + 1)]? = some (.cells #[.slice A ts.length c, .int .i64 s.at_, .bool s.bad] 59 (0, 0))) := by rw [hV]; exact set3_keep HY15.out (by omega) _ _ _
  have HK21 : Hid (Took w bp 61 A c ts s V18) := by rw [hV]; exact HK17.out.back hle0
  clear hV HY14 HY15 HK17
  clear k0 k1 k2 k3 k4 k5 k6 k7
  obtain ⟨k0, k1, k2, k3, k4, k5, k6, k7⟩ := row4 HY19.out
  go_wp2_with fail
  exact ret_row_tmp 2 3 rfl rfl rfl rfl (setrow4 HY19.out _ _ _ _) Try.underlying43 infoExS ⟨rfl, took_set4 HK21.out.1 HK21.out.2 HR.out (Nat.le_refl _) _ _ _ _⟩
set_option maxRecDepth 100000 in
set_option maxHeartbeats 16000000 in
theorem first_a (bp : Nat) (A : Option Addr) (c : Nat) (ts : List Lx.Tok) (s : St) (h0 : sees ts s [45] = true) (h1 : isKind ts s.adv 2 = true) (h2 : sees ts s.adv.adv wFby = true) (w : World) (h : RowAt w bp 61 A c ts s) :
    Calls Try.prog 68 #[.pointer (some ⟨bp, 0, none⟩)] w (FirstPost w bp A c ts s (some (.mk 4 1 [] [.mk 1 (Tr.tok ts s.adv).n [] []], s.adv.adv.adv))) := by
  have HR := Lib.hid h
  have hbw := h.lt
  have hlen := h.len
  have hle0 := h.le
  obtain ⟨q0, q1, q2, q3, q4, q5⟩ := row6 h
  clear h

  have HTM := Lib.hid (fun W h => take_any bp A c ts s [45] W h)
  rw [h0, if_pos rfl] at HTM
  have HNX := Lib.hid (next_any bp A c ts s.adv)
  generalize hcu : cur ts s.adv = cu at *
  generalize has ts s.adv = hh at *
  obtain ⟨kd, tx, nn, pl⟩ := cu
  unfold tokAgg at HNX
  dsimp only at *
  have hkd := isKind_kd (k := 2) hcu (by decide)
  rw [h1] at hkd
  have HL := Lib.hid (isKind_lt h1)
  rw [tok_n hcu h1]
  have HTF := Lib.hid (fun W h => take_any bp A c ts s.adv.adv wFby W h)
  rw [h2, if_pos rfl] at HTF
  unfold wFby at HTF
  clear h0 h1 h2 hcu
  go_enter Try.func68, Try.ntmps68
  go_wp2_with fail
  obtain ⟨W0, hW0⟩ : ∃ W0, W0 = (w.alloc (.cells zrow 43)).alloc (.cells #[.slice A ts.length c, .int .i64 s.at_, .bool s.bad] 59) := ⟨_, rfl⟩
  unfold zrow at hW0
  rw [← hW0]
  have HZ0 : Hid (W0.heap[w.heap.size]? = some (.cells zrow 43 (0, 0))) := by rw [hW0]; exact row_alloc (heap_alloc_new _ _) _
  have HF0 : Hid (W0.heap[w.heap.size + 1]? = some (.cells #[.slice A ts.length c, .int .i64 s.at_, .bool s.bad] 59 (0, 0))) := by
    have h := heap_alloc_new (w.alloc (.cells zrow 43)) (.cells #[.slice A ts.length c, .int .i64 s.at_, .bool s.bad] 59)
    have e : (w.alloc (.cells zrow 43)).heap.size = w.heap.size + 1 := by simp
    rw [e] at h
    rw [hW0]; exact h
  have HK0 : Hid (Took w bp 61 A c ts s W0) := by rw [hW0]; exact ((took_refl HR.out).alloc _).alloc _
  clear hW0 q0 q1 q2 q3 q4 q5
  refine (HTM.out _ HK0.out.1).mono ?_
  rintro e w1 ⟨rfl, hk⟩
  have HY2 := Lib.hid (hk.row HZ0.out (by omega))
  have HY3 := Lib.hid (hk.row HF0.out (by omega))
  have HK4 := Lib.hid (HK0.out.trans hk)
  clear HZ0 HF0 HK0
  clear hk
  go_wp2_with fail
  have hz_HY2 := (Array.getElem?_eq_some_iff.1 HY2.out).1
  have hz_HY3 := (Array.getElem?_eq_some_iff.1 HY3.out).1
  obtain ⟨W5, hW⟩ : ∃ W, W = w1.alloc (.cells #[.int .i64 2, .int .i32 0, .string ⟨#[]⟩, .slice none 0 0] 43) := ⟨_, rfl⟩
  rw [← hW]
  have hbx : Below w1.heap.size w1 W5 := by rw [hW]; exact (Below.refl _ _).alloc (Nat.le_refl _) _
  have HN5 : Hid (W5.heap[w1.heap.size]? = some (.cells #[.int .i64 2, .int .i32 0, .string ⟨#[]⟩, .slice none 0 0] 43 (0, 0))) := by rw [hW]; exact heap_alloc_new _ _
  have hlo5 : w.heap.size < w1.heap.size := (Array.getElem?_eq_some_iff.1 HY2.out).1
  clear hW
  have HY6 := Lib.hid ((hbx.block _ (Array.getElem?_eq_some_iff.1 HY2.out).1).trans HY2.out)
  have HY7 := Lib.hid ((hbx.block _ (Array.getElem?_eq_some_iff.1 HY3.out).1).trans HY3.out)
  have HK8 := Lib.hid (HK4.out.below hbx)
  clear HY2 HY3 HK4
  clear hbx
  refine (HNX.out _ HK8.out.1).mono ?_
  rintro e wn ⟨rfl, hbn⟩
  have HY9 := Lib.hid ((hbn.block _ (Array.getElem?_eq_some_iff.1 HY6.out).1).trans HY6.out)
  have HY10 := Lib.hid ((hbn.block _ (Array.getElem?_eq_some_iff.1 HY7.out).1).trans HY7.out)
  have HY11 := Lib.hid ((hbn.block _ (Array.getElem?_eq_some_iff.1 HN5.out).1).trans HN5.out)
  have HK12 := Lib.hid (HK8.out.below hbn)
  clear HY6 HY7 HN5 HK8
  clear hbn
  go_upto_region 7 with (fail)
  have hz_HY9 := (Array.getElem?_eq_some_iff.1 HY9.out).1
  have hz_HY10 := (Array.getElem?_eq_some_iff.1 HY10.out).1
  have hz_HY11 := (Array.getElem?_eq_some_iff.1 HY11.out).1
  obtain ⟨W13, hW⟩ : ∃ W, W = wn.alloc (.cells #[.int .i64 kd, .string ⟨tx.toArray⟩, .int .i32 nn, .int .i64 pl] 40) := ⟨_, rfl⟩
  rw [← hW]
  have hbx : Below wn.heap.size wn W13 := by rw [hW]; exact (Below.refl _ _).alloc (Nat.le_refl _) _
  have HN13 : Hid (W13.heap[wn.heap.size]? = some (.cells #[.int .i64 kd, .string ⟨tx.toArray⟩, .int .i32 nn, .int .i64 pl] 40 (0, 0))) := by rw [hW]; exact heap_alloc_new _ _
  have hlo13 : w.heap.size < wn.heap.size := (Array.getElem?_eq_some_iff.1 HY9.out).1
  clear hW
  have HY14 := Lib.hid ((hbx.block _ (Array.getElem?_eq_some_iff.1 HY9.out).1).trans HY9.out)
  have HY15 := Lib.hid ((hbx.block _ (Array.getElem?_eq_some_iff.1 HY10.out).1).trans HY10.out)
  have HY16 := Lib.hid ((hbx.block _ (Array.getElem?_eq_some_iff.1 HY11.out).1).trans HY11.out)
  have HK17 := Lib.hid (HK12.out.below hbx)
  clear HY9 HY10 HY11 HK12
  clear hbx
  have hz_HY14 := (Array.getElem?_eq_some_iff.1 HY14.out).1
  have hz_HY15 := (Array.getElem?_eq_some_iff.1 HY15.out).1
  have hz_HY16 := (Array.getElem?_eq_some_iff.1 HY16.out).1
  have hz_HN13 := (Array.getElem?_eq_some_iff.1 HN13.out).1
  obtain ⟨m0, m1, m2, m3, m4, m5, m6, m7⟩ := row4 HY16.out
  obtain ⟨t0, t1, t2, t3, t4, t5, t6, t7⟩ := row4 HN13.out
  go_upto_region 9 with (fail)
  obtain ⟨V18, hV⟩ : ∃ W, W = (((W13.setCell ⟨w1.heap.size, 0, none⟩ (.int .i64 1)).setCell ⟨w1.heap.size, 1, none⟩ (.int .i32 nn)).setCell ⟨w1.heap.size, 2, none⟩ (.string ⟨#[]⟩)).setCell ⟨w1.heap.size, 3, none⟩ (.slice none 0 0) := ⟨_, rfl⟩
  rw [← hV]
  have HY19 : Hid (V18.heap[w.heap.size]? = some (.cells zrow 43 (0, 0))) := by rw [hV]; exact s4_keep HY14.out (by omega) _ _ _ _
  have HY20 : Hid (V18.heap[(w.heap.size + 1)]? = some (.cells #[.slice A ts.length c, .int .i64 s.at_, .bool s.bad] 59 (0, 0))) := by rw [hV]; exact s4_keep HY15.out (by omega) _ _ _ _
  have HY21 : Hid (V18.heap[w1.heap.size]? = some (.cells #[.int .i64 1, .int .i32 nn, .string ⟨#[]⟩, .slice none 0 0] 43 (0, 0))) := by rw [hV]; exact setrow4 HY16.out _ _ _ _
  have HY22 : Hid (V18.heap[wn.heap.size]? = some (.cells #[.int .i64 kd, .string ⟨tx.toArray⟩, .int .i32 nn, .int .i64 pl] 40 (0, 0))) := by rw [hV]; exact s4_keep HN13.out (by omega) _ _ _ _
  have HK23 : Hid (Took w bp 61 A c ts s.adv V18) := by rw [hV]; exact HK17.out.ours (grown_set4 (bp := bp) (.inr trivial) _ _ _ _) HR.out (by omega)
  clear hV HY14 HY15 HY16 HN13 HK17
  clear m0 m1 m2 m3 m4 m5 m6 m7
  clear t0 t1 t2 t3 t4 t5 t6 t7
  obtain ⟨q0, q1, q2, q3, q4, q5⟩ := row6 HK23.out.1
  have hwr : (s.adv.at_ : Int) + 1 ≤ 9223372036854775807 := by have := HL.out.2; omega
  go_upto_region 13 with (fail)
  obtain ⟨V24, hV⟩ : ∃ W, W = V18.setCell ⟨bp, 1, none⟩ (.int .i64 ((s.adv.at_ : Int) + 1)) := ⟨_, rfl⟩
  rw [← hV]
  have HY25 : Hid (V24.heap[w.heap.size]? = some (.cells zrow 43 (0, 0))) := by rw [hV]; exact set1_keep HY19.out (by omega) _
  have HY26 : Hid (V24.heap[(w.heap.size + 1)]? = some (.cells #[.slice A ts.length c, .int .i64 s.at_, .bool s.bad] 59 (0, 0))) := by rw [hV]; exact set1_keep HY20.out (by omega) _
  have HY27 : Hid (V24.heap[w1.heap.size]? = some (.cells #[.int .i64 1, .int .i32 nn, .string ⟨#[]⟩, .slice none 0 0] 43 (0, 0))) := by rw [hV]; exact set1_keep HY21.out (by omega) _
  have HY28 : Hid (V24.heap[wn.heap.size]? = some (.cells #[.int .i64 kd, .string ⟨tx.toArray⟩, .int .i32 nn, .int .i64 pl] 40 (0, 0))) := by rw [hV]; exact set1_keep HY22.out (by omega) _
  have HK29 : Hid (Took w bp 61 A c ts s.adv.adv V24) := by rw [hV]; exact HK23.out.step HL.out.2
  clear hV HY19 HY20 HY21 HY22 HK23
  clear q0 q1 q2 q3 q4 q5
  clear HY28
  go_wp2_with fail
  refine (HTF.out _ HK29.out.1).mono ?_
  rintro e w30 ⟨rfl, hk⟩
  have HY31 := Lib.hid (hk.row HY25.out (by omega))
  have HY32 := Lib.hid (hk.row HY26.out (by omega))
  have HY33 := Lib.hid (hk.row HY27.out (by omega))
  have HK34 := Lib.hid (HK29.out.trans hk)
  clear HY25 HY26 HY27 HK29
  clear hk
  obtain ⟨k0, k1, k2, k3, k4, k5, k6, k7⟩ := row4 HY31.out
  obtain ⟨m0, m1, m2, m3, m4, m5, m6, m7⟩ := row4 HY33.out
  have hz_HY31 := (Array.getElem?_eq_some_iff.1 HY31.out).1
  have hz_HY32 := (Array.getElem?_eq_some_iff.1 HY32.out).1
  have hz_HY33 := (Array.getElem?_eq_some_iff.1 HY33.out).1
  go_upto_region 18 with (fail)
  obtain ⟨V35, hV⟩ : ∃ W, W = ((((w30.setCell ⟨w1.heap.size, 0, none⟩ (.int .i64 4)).setCell ⟨w1.heap.size, 1, none⟩ (.int .i32 1)).setCell ⟨w1.heap.size, 2, none⟩ (.string ⟨#[]⟩)).setCell ⟨w1.heap.size, 3, none⟩ (.slice (some ⟨w30.heap.size, 0, none⟩) 1 1)).alloc (.cells #[.int .i64 1, .int .i32 nn, .string ⟨#[]⟩, .slice none 0 0] 43) := ⟨_, rfl⟩
  rw [← hV]
  have HY36 : Hid (V35.heap[w.heap.size]? = some (.cells zrow 43 (0, 0))) := by rw [hV]; exact v_keep HY31.out (by omega) _ _ _ _ _
  have HY37 : Hid (V35.heap[(w.heap.size + 1)]? = some (.cells #[.slice A ts.length c, .int .i64 s.at_, .bool s.bad] 59 (0, 0))) := by rw [hV]; exact v_keep HY32.out (by omega) _ _ _ _ _
  have HY38 : Hid (V35.heap[w1.heap.size]? = some (.cells #[.int .i64 4, .int .i32 1, .string ⟨#[]⟩, .slice (some ⟨w30.heap.size, 0, none⟩) 1 1] 43 (0, 0))) := by rw [hV]; exact v_res HY33.out _ _ _ _ _
  have HY39 : Hid (V35.heap[w30.heap.size]? = some (.cells #[.int .i64 1, .int .i32 nn, .string ⟨#[]⟩, .slice none 0 0] 43 (0, 0))) := by rw [hV]; exact v_row _ _ _ _ _
  have HK40 : Hid (Took w bp 61 A c ts s.adv.adv.adv V35) := by rw [hV]; exact (HK34.out.ours (grown_set4 (bp := bp) (.inr trivial) _ _ _ _) HR.out (by omega)).alloc _
  clear hV HY31 HY32 HY33 HK34
  clear k0 k1 k2 k3 k4 k5 k6 k7
  clear m0 m1 m2 m3 m4 m5 m6 m7
  obtain ⟨k0, k1, k2, k3, k4, k5, k6, k7⟩ := row4 HY36.out
  obtain ⟨m0, m1, m2, m3, m4, m5, m6, m7⟩ := row4 HY38.out
  have hz_HY36 := (Array.getElem?_eq_some_iff.1 HY36.out).1
  have hz_HY37 := (Array.getElem?_eq_some_iff.1 HY37.out).1
  have hz_HY38 := (Array.getElem?_eq_some_iff.1 HY38.out).1
  have hz_HY39 := (Array.getElem?_eq_some_iff.1 HY39.out).1
  go_wp2_with fail
  refine ret_row_tmp 2 3 rfl rfl rfl rfl (setrow4 HY36.out _ _ _ _) Try.underlying43 infoExS ⟨some ⟨w30.heap.size, 0, none⟩, 1, rfl, ?_, took_set4 HK40.out.1 HK40.out.2 HR.out (Nat.le_refl _) _ _ _ _⟩
  rw [at_eq]
  exact atL1 (x := .mk 1 nn [] []) (A := none) (c := 0) (s4_keep HY39.out (by omega) _ _ _ _) (by omega) (by rw [at_eq]; exact atL_nil _ _ _)
set_option maxRecDepth 100000 in
set_option maxHeartbeats 16000000 in
theorem first_b (bp : Nat) (A : Option Addr) (c : Nat) (ts : List Lx.Tok) (s : St) (h0 : sees ts s [45] = true) (h1 : isKind ts s.adv 2 = true) (h2 : sees ts s.adv.adv wFby = false) (w : World) (h : RowAt w bp 61 A c ts s) :
    Calls Try.prog 68 #[.pointer (some ⟨bp, 0, none⟩)] w (FirstPost w bp A c ts s (none)) := by
  have HR := Lib.hid h
  have hbw := h.lt
  have hlen := h.len
  have hle0 := h.le
  obtain ⟨q0, q1, q2, q3, q4, q5⟩ := row6 h
  clear h

  have HTM := Lib.hid (fun W h => take_any bp A c ts s [45] W h)
  rw [h0, if_pos rfl] at HTM
  have HNX := Lib.hid (next_any bp A c ts s.adv)
  generalize hcu : cur ts s.adv = cu at *
  generalize has ts s.adv = hh at *
  obtain ⟨kd, tx, nn, pl⟩ := cu
  unfold tokAgg at HNX
  dsimp only at *
  have hkd := isKind_kd (k := 2) hcu (by decide)
  rw [h1] at hkd
  have HL := Lib.hid (isKind_lt h1)
  have HTF := Lib.hid (fun W h => take_any bp A c ts s.adv.adv wFby W h)
  rw [h2, if_neg (by decide)] at HTF
  unfold wFby at HTF
  clear h0 h1 h2 hcu
  go_enter Try.func68, Try.ntmps68
  go_wp2_with fail
  obtain ⟨W0, hW0⟩ : ∃ W0, W0 = (w.alloc (.cells zrow 43)).alloc (.cells #[.slice A ts.length c, .int .i64 s.at_, .bool s.bad] 59) := ⟨_, rfl⟩
  unfold zrow at hW0
  rw [← hW0]
  have HZ0 : Hid (W0.heap[w.heap.size]? = some (.cells zrow 43 (0, 0))) := by rw [hW0]; exact row_alloc (heap_alloc_new _ _) _
  have HF0 : Hid (W0.heap[w.heap.size + 1]? = some (.cells #[.slice A ts.length c, .int .i64 s.at_, .bool s.bad] 59 (0, 0))) := by
    have h := heap_alloc_new (w.alloc (.cells zrow 43)) (.cells #[.slice A ts.length c, .int .i64 s.at_, .bool s.bad] 59)
    have e : (w.alloc (.cells zrow 43)).heap.size = w.heap.size + 1 := by simp
    rw [e] at h
    rw [hW0]; exact h
  have HK0 : Hid (Took w bp 61 A c ts s W0) := by rw [hW0]; exact ((took_refl HR.out).alloc _).alloc _
  clear hW0 q0 q1 q2 q3 q4 q5
  refine (HTM.out _ HK0.out.1).mono ?_
  rintro e w1 ⟨rfl, hk⟩
  have HY2 := Lib.hid (hk.row HZ0.out (by omega))
  have HY3 := Lib.hid (hk.row HF0.out (by omega))
  have HK4 := Lib.hid (HK0.out.trans hk)
  clear HZ0 HF0 HK0
  clear hk
  go_wp2_with fail
  have hz_HY2 := (Array.getElem?_eq_some_iff.1 HY2.out).1
  have hz_HY3 := (Array.getElem?_eq_some_iff.1 HY3.out).1
  obtain ⟨W5, hW⟩ : ∃ W, W = w1.alloc (.cells #[.int .i64 2, .int .i32 0, .string ⟨#[]⟩, .slice none 0 0] 43) := ⟨_, rfl⟩
  rw [← hW]
  have hbx : Below w1.heap.size w1 W5 := by rw [hW]; exact (Below.refl _ _).alloc (Nat.le_refl _) _
  have HN5 : Hid (W5.heap[w1.heap.size]? = some (.cells #[.int .i64 2, .int .i32 0, .string ⟨#[]⟩, .slice none 0 0] 43 (0, 0))) := by rw [hW]; exact heap_alloc_new _ _
  have hlo5 : w.heap.size < w1.heap.size := (Array.getElem?_eq_some_iff.1 HY2.out).1
  clear hW
  have HY6 := Lib.hid ((hbx.block _ (Array.getElem?_eq_some_iff.1 HY2.out).1).trans HY2.out)
  have HY7 := Lib.hid ((hbx.block _ (Array.getElem?_eq_some_iff.1 HY3.out).1).trans HY3.out)
  have HK8 := Lib.hid (HK4.out.below hbx)
  clear HY2 HY3 HK4
  clear hbx
  refine (HNX.out _ HK8.out.1).mono ?_
  rintro e wn ⟨rfl, hbn⟩
  have HY9 := Lib.hid ((hbn.block _ (Array.getElem?_eq_some_iff.1 HY6.out).1).trans HY6.out)
  have HY10 := Lib.hid ((hbn.block _ (Array.getElem?_eq_some_iff.1 HY7.out).1).trans HY7.out)
  have HY11 := Lib.hid ((hbn.block _ (Array.getElem?_eq_some_iff.1 HN5.out).1).trans HN5.out)
  have HK12 := Lib.hid (HK8.out.below hbn)
  clear HY6 HY7 HN5 HK8
  clear hbn
  go_upto_region 7 with (fail)
  have hz_HY9 := (Array.getElem?_eq_some_iff.1 HY9.out).1
  have hz_HY10 := (Array.getElem?_eq_some_iff.1 HY10.out).1
  have hz_HY11 := (Array.getElem?_eq_some_iff.1 HY11.out).1
  obtain ⟨W13, hW⟩ : ∃ W, W = wn.alloc (.cells #[.int .i64 kd, .string ⟨tx.toArray⟩, .int .i32 nn, .int .i64 pl] 40) := ⟨_, rfl⟩
  rw [← hW]
  have hbx : Below wn.heap.size wn W13 := by rw [hW]; exact (Below.refl _ _).alloc (Nat.le_refl _) _
  have HN13 : Hid (W13.heap[wn.heap.size]? = some (.cells #[.int .i64 kd, .string ⟨tx.toArray⟩, .int .i32 nn, .int .i64 pl] 40 (0, 0))) := by rw [hW]; exact heap_alloc_new _ _
  have hlo13 : w.heap.size < wn.heap.size := (Array.getElem?_eq_some_iff.1 HY9.out).1
  clear hW
  have HY14 := Lib.hid ((hbx.block _ (Array.getElem?_eq_some_iff.1 HY9.out).1).trans HY9.out)
  have HY15 := Lib.hid ((hbx.block _ (Array.getElem?_eq_some_iff.1 HY10.out).1).trans HY10.out)
  have HY16 := Lib.hid ((hbx.block _ (Array.getElem?_eq_some_iff.1 HY11.out).1).trans HY11.out)
  have HK17 := Lib.hid (HK12.out.below hbx)
  clear HY9 HY10 HY11 HK12
  clear hbx
  have hz_HY14 := (Array.getElem?_eq_some_iff.1 HY14.out).1
  have hz_HY15 := (Array.getElem?_eq_some_iff.1 HY15.out).1
  have hz_HY16 := (Array.getElem?_eq_some_iff.1 HY16.out).1
  have hz_HN13 := (Array.getElem?_eq_some_iff.1 HN13.out).1
  obtain ⟨m0, m1, m2, m3, m4, m5, m6, m7⟩ := row4 HY16.out
  obtain ⟨t0, t1, t2, t3, t4, t5, t6, t7⟩ := row4 HN13.out
  go_upto_region 9 with (fail)
  obtain ⟨V18, hV⟩ : ∃ W, W = (((W13.setCell ⟨w1.heap.size, 0, none⟩ (.int .i64 1)).setCell ⟨w1.heap.size, 1, none⟩ (.int .i32 nn)).setCell ⟨w1.heap.size, 2, none⟩ (.string ⟨#[]⟩)).setCell ⟨w1.heap.size, 3, none⟩ (.slice none 0 0) := ⟨_, rfl⟩
  rw [← hV]
  have HY19 : Hid (V18.heap[w.heap.size]? = some (.cells zrow 43 (0, 0))) := by rw [hV]; exact s4_keep HY14.out (by omega) _ _ _ _
  have HY20 : Hid (V18.heap[(w.heap.size + 1)]? = some (.cells #[.slice A ts.length c, .int .i64 s.at_, .bool s.bad] 59 (0, 0))) := by rw [hV]; exact s4_keep HY15.out (by omega) _ _ _ _
  have HY21 : Hid (V18.heap[w1.heap.size]? = some (.cells #[.int .i64 1, .int .i32 nn, .string ⟨#[]⟩, .slice none 0 0] 43 (0, 0))) := by rw [hV]; exact setrow4 HY16.out _ _ _ _
  have HY22 : Hid (V18.heap[wn.heap.size]? = some (.cells #[.int .i64 kd, .string ⟨tx.toArray⟩, .int .i32 nn, .int .i64 pl] 40 (0, 0))) := by rw [hV]; exact s4_keep HN13.out (by omega) _ _ _ _
  have HK23 : Hid (Took w bp 61 A c ts s.adv V18) := by rw [hV]; exact HK17.out.ours (grown_set4 (bp := bp) (.inr trivial) _ _ _ _) HR.out (by omega)
  clear hV HY14 HY15 HY16 HN13 HK17
  clear m0 m1 m2 m3 m4 m5 m6 m7
  clear t0 t1 t2 t3 t4 t5 t6 t7
  obtain ⟨q0, q1, q2, q3, q4, q5⟩ := row6 HK23.out.1
  have hwr : (s.adv.at_ : Int) + 1 ≤ 9223372036854775807 := by have := HL.out.2; omega
  go_upto_region 13 with (fail)
  obtain ⟨V24, hV⟩ : ∃ W, W = V18.setCell ⟨bp, 1, none⟩ (.int .i64 ((s.adv.at_ : Int) + 1)) := ⟨_, rfl⟩
  rw [← hV]
  have HY25 : Hid (V24.heap[w.heap.size]? = some (.cells zrow 43 (0, 0))) := by rw [hV]; exact set1_keep HY19.out (by omega) _
  have HY26 : Hid (V24.heap[(w.heap.size + 1)]? = some (.cells #[.slice A ts.length c, .int .i64 s.at_, .bool s.bad] 59 (0, 0))) := by rw [hV]; exact set1_keep HY20.out (by omega) _
  have HY27 : Hid (V24.heap[w1.heap.size]? = some (.cells #[.int .i64 1, .int .i32 nn, .string ⟨#[]⟩, .slice none 0 0] 43 (0, 0))) := by rw [hV]; exact set1_keep HY21.out (by omega) _
  have HY28 : Hid (V24.heap[wn.heap.size]? = some (.cells #[.int .i64 kd, .string ⟨tx.toArray⟩, .int .i32 nn, .int .i64 pl] 40 (0, 0))) := by rw [hV]; exact set1_keep HY22.out (by omega) _
  have HK29 : Hid (Took w bp 61 A c ts s.adv.adv V24) := by rw [hV]; exact HK23.out.step HL.out.2
  clear hV HY19 HY20 HY21 HY22 HK23
  clear q0 q1 q2 q3 q4 q5
  clear HY28
  go_wp2_with fail
  refine (HTF.out _ HK29.out.1).mono ?_
  rintro e w30 ⟨rfl, hk⟩
  have HY31 := Lib.hid (hk.row HY25.out (by omega))
  have HY32 := Lib.hid (hk.row HY26.out (by omega))
  have HY33 := Lib.hid (hk.row HY27.out (by omega))
  have HK34 := Lib.hid (HK29.out.trans hk)
  clear HY25 HY26 HY27 HK29
  clear hk
  clear HY33
  obtain ⟨q0, q1, q2, q3, q4, q5⟩ := row6 HK34.out.1
  obtain ⟨k0, k1, k2, k3, k4, k5, k6, k7⟩ := row4 HY31.out
  obtain ⟨f0, f1, f2⟩ := row3 HY32.out
  go_upto_region 15 with (fail)
  obtain ⟨V35, hV⟩ : ∃ W, W = ((w30.setCell ⟨bp, 0, none⟩ (.slice A ts.length c)).setCell ⟨bp, 1, none⟩ (.int .i64 (s.at_ : Int))).setCell ⟨bp, 2, none⟩ (.bool s.bad) := ⟨_, rfl⟩
  rw [← hV]
  have HY36 : Hid (V35.heap[w.heap.size]? = some (.cells zrow 43 (0, 0))) := by rw [hV]; exact set3_keep HY31.out (by omega) _ _ _
  have HY37 : Hid (V35.heap[(w.heap.size + 1)]? = some (.cells #[.slice A ts.length c, .int .i64 s.at_, .bool s.bad] 59 (0, 0))) := by rw [hV]; exact set3_keep HY32.out (by omega) _ _ _
  have HK38 : Hid (Took w bp 61 A c ts s V35) := by rw [hV]; exact HK34.out.back hle0
  clear hV HY31 HY32 HK34
  clear k0 k1 k2 k3 k4 k5 k6 k7
  obtain ⟨k0, k1, k2, k3, k4, k5, k6, k7⟩ := row4 HY36.out
  go_wp2_with fail
  exact ret_row_tmp 2 3 rfl rfl rfl rfl (setrow4 HY36.out _ _ _ _) Try.underlying43 infoExS ⟨rfl, took_set4 HK38.out.1 HK38.out.2 HR.out (Nat.le_refl _) _ _ _ _⟩
set_option maxRecDepth 100000 in
set_option maxHeartbeats 16000000 in
theorem first_d (bp : Nat) (A : Option Addr) (c : Nat) (ts : List Lx.Tok) (s : St) (h0 : sees ts s [45] = false) (h1 : isKind ts s 2 = true) (h2 : sees ts s.adv wFby = true) (w : World) (h : RowAt w bp 61 A c ts s) :
    Calls Try.prog 68 #[.pointer (some ⟨bp, 0, none⟩)] w (FirstPost w bp A c ts s (some (.mk 1 (Tr.tok ts s).n [] [], s.adv.adv))) := by
  have HR := Lib.hid h
  have hbw := h.lt
  have hlen := h.len
  have hle0 := h.le
  obtain ⟨q0, q1, q2, q3, q4, q5⟩ := row6 h
  clear h

  have HTM := Lib.hid (fun W h => take_any bp A c ts s [45] W h)
  rw [h0, if_neg (by decide)] at HTM
  have HNX := Lib.hid (next_any bp A c ts s)
  generalize hcu : cur ts s = cu at *
  generalize has ts s = hh at *
  obtain ⟨kd, tx, nn, pl⟩ := cu
  unfold tokAgg at HNX
  dsimp only at *
  have hkd := isKind_kd (k := 2) hcu (by decide)
  rw [h1] at hkd
  have HL := Lib.hid (isKind_lt h1)
  rw [tok_n hcu h1]
  have HTF := Lib.hid (fun W h => take_any bp A c ts s.adv wFby W h)
  rw [h2, if_pos rfl] at HTF
  unfold wFby at HTF
  clear h0 h1 h2 hcu
  go_enter Try.func68, Try.ntmps68
  go_wp2_with fail
  obtain ⟨W0, hW0⟩ : ∃ W0, W0 = (w.alloc (.cells zrow 43)).alloc (.cells #[.slice A ts.length c, .int .i64 s.at_, .bool s.bad] 59) := ⟨_, rfl⟩
  unfold zrow at hW0
  rw [← hW0]
  have HZ0 : Hid (W0.heap[w.heap.size]? = some (.cells zrow 43 (0, 0))) := by rw [hW0]; exact row_alloc (heap_alloc_new _ _) _
  have HF0 : Hid (W0.heap[w.heap.size + 1]? = some (.cells #[.slice A ts.length c, .int .i64 s.at_, .bool s.bad] 59 (0, 0))) := by
    have h := heap_alloc_new (w.alloc (.cells zrow 43)) (.cells #[.slice A ts.length c, .int .i64 s.at_, .bool s.bad] 59)
    have e : (w.alloc (.cells zrow 43)).heap.size = w.heap.size + 1 := by simp
    rw [e] at h
    rw [hW0]; exact h
  have HK0 : Hid (Took w bp 61 A c ts s W0) := by rw [hW0]; exact ((took_refl HR.out).alloc _).alloc _
  clear hW0 q0 q1 q2 q3 q4 q5
  refine (HTM.out _ HK0.out.1).mono ?_
  rintro e w1 ⟨rfl, hk⟩
  have HY2 := Lib.hid (hk.row HZ0.out (by omega))
  have HY3 := Lib.hid (hk.row HF0.out (by omega))
  have HK4 := Lib.hid (HK0.out.trans hk)
  clear HZ0 HF0 HK0
  clear hk
  go_wp2_with fail
  have hz_HY2 := (Array.getElem?_eq_some_iff.1 HY2.out).1
  have hz_HY3 := (Array.getElem?_eq_some_iff.1 HY3.out).1
  obtain ⟨W5, hW⟩ : ∃ W, W = w1.alloc (.cells #[.int .i64 2, .int .i32 0, .string ⟨#[]⟩, .slice none 0 0] 43) := ⟨_, rfl⟩
  rw [← hW]
  have hbx : Below w1.heap.size w1 W5 := by rw [hW]; exact (Below.refl _ _).alloc (Nat.le_refl _) _
  have HN5 : Hid (W5.heap[w1.heap.size]? = some (.cells #[.int .i64 2, .int .i32 0, .string ⟨#[]⟩, .slice none 0 0] 43 (0, 0))) := by rw [hW]; exact heap_alloc_new _ _
  have hlo5 : w.heap.size < w1.heap.size := (Array.getElem?_eq_some_iff.1 HY2.out).1
  clear hW
  have HY6 := Lib.hid ((hbx.block _ (Array.getElem?_eq_some_iff.1 HY2.out).1).trans HY2.out)
  have HY7 := Lib.hid ((hbx.block _ (Array.getElem?_eq_some_iff.1 HY3.out).1).trans HY3.out)
  have HK8 := Lib.hid (HK4.out.below hbx)
  clear HY2 HY3 HK4
  clear hbx
  refine (HNX.out _ HK8.out.1).mono ?_
  rintro e wn ⟨rfl, hbn⟩
  have HY9 := Lib.hid ((hbn.block _ (Array.getElem?_eq_some_iff.1 HY6.out).1).trans HY6.out)
  have HY10 := Lib.hid ((hbn.block _ (Array.getElem?_eq_some_iff.1 HY7.out).1).trans HY7.out)
  have HY11 := Lib.hid ((hbn.block _ (Array.getElem?_eq_some_iff.1 HN5.out).1).trans HN5.out)
  have HK12 := Lib.hid (HK8.out.below hbn)
  clear HY6 HY7 HN5 HK8
  clear hbn
  go_upto_region 7 with (fail)
  have hz_HY9 := (Array.getElem?_eq_some_iff.1 HY9.out).1
  have hz_HY10 := (Array.getElem?_eq_some_iff.1 HY10.out).1
  have hz_HY11 := (Array.getElem?_eq_some_iff.1 HY11.out).1
  obtain ⟨W13, hW⟩ : ∃ W, W = wn.alloc (.cells #[.int .i64 kd, .string ⟨tx.toArray⟩, .int .i32 nn, .int .i64 pl] 40) := ⟨_, rfl⟩
  rw [← hW]
  have hbx : Below wn.heap.size wn W13 := by rw [hW]; exact (Below.refl _ _).alloc (Nat.le_refl _) _
  have HN13 : Hid (W13.heap[wn.heap.size]? = some (.cells #[.int .i64 kd, .string ⟨tx.toArray⟩, .int .i32 nn, .int .i64 pl] 40 (0, 0))) := by rw [hW]; exact heap_alloc_new _ _
  have hlo13 : w.heap.size < wn.heap.size := (Array.getElem?_eq_some_iff.1 HY9.out).1
  clear hW
  have HY14 := Lib.hid ((hbx.block _ (Array.getElem?_eq_some_iff.1 HY9.out).1).trans HY9.out)
  have HY15 := Lib.hid ((hbx.block _ (Array.getElem?_eq_some_iff.1 HY10.out).1).trans HY10.out)
  have HY16 := Lib.hid ((hbx.block _ (Array.getElem?_eq_some_iff.1 HY11.out).1).trans HY11.out)
  have HK17 := Lib.hid (HK12.out.below hbx)
  clear HY9 HY10 HY11 HK12
  clear hbx
  have hz_HY14 := (Array.getElem?_eq_some_iff.1 HY14.out).1
  have hz_HY15 := (Array.getElem?_eq_some_iff.1 HY15.out).1
  have hz_HY16 := (Array.getElem?_eq_some_iff.1 HY16.out).1
  have hz_HN13 := (Array.getElem?_eq_some_iff.1 HN13.out).1
  obtain ⟨m0, m1, m2, m3, m4, m5, m6, m7⟩ := row4 HY16.out
  obtain ⟨t0, t1, t2, t3, t4, t5, t6, t7⟩ := row4 HN13.out
  go_upto_region 9 with (fail)
  obtain ⟨V18, hV⟩ : ∃ W, W = (((W13.setCell ⟨w1.heap.size, 0, none⟩ (.int .i64 1)).setCell ⟨w1.heap.size, 1, none⟩ (.int .i32 nn)).setCell ⟨w1.heap.size, 2, none⟩ (.string ⟨#[]⟩)).setCell ⟨w1.heap.size, 3, none⟩ (.slice none 0 0) := ⟨_, rfl⟩
  rw [← hV]
  have HY19 : Hid (V18.heap[w.heap.size]? = some (.cells zrow 43 (0, 0))) := by rw [hV]; exact s4_keep HY14.out (by omega) _ _ _ _
  have HY20 : Hid (V18.heap[(w.heap.size + 1)]? = some (.cells #[.slice A ts.length c, .int .i64 s.at_, .bool s.bad] 59 (0, 0))) := by rw [hV]; exact s4_keep HY15.out (by omega) _ _ _ _
  have HY21 : Hid (V18.heap[w1.heap.size]? = some (.cells #[.int .i64 1, .int .i32 nn, .string ⟨#[]⟩, .slice none 0 0] 43 (0, 0))) := by rw [hV]; exact setrow4 HY16.out _ _ _ _
  have HY22 : Hid (V18.heap[wn.heap.size]? = some (.cells #[.int .i64 kd, .string ⟨tx.toArray⟩, .int .i32 nn, .int .i64 pl] 40 (0, 0))) := by rw [hV]; exact s4_keep HN13.out (by omega) _ _ _ _
  have HK23 : Hid (Took w bp 61 A c ts s V18) := by rw [hV]; exact HK17.out.ours (grown_set4 (bp := bp) (.inr trivial) _ _ _ _) HR.out (by omega)
  clear hV HY14 HY15 HY16 HN13 HK17
  clear m0 m1 m2 m3 m4 m5 m6 m7
  clear t0 t1 t2 t3 t4 t5 t6 t7
  obtain ⟨q0, q1, q2, q3, q4, q5⟩ := row6 HK23.out.1
  have hwr : (s.at_ : Int) + 1 ≤ 9223372036854775807 := by have := HL.out.2; omega
  go_upto_region 13 with (fail)
  obtain ⟨V24, hV⟩ : ∃ W, W = V18.setCell ⟨bp, 1, none⟩ (.int .i64 ((s.at_ : Int) + 1)) := ⟨_, rfl⟩
  rw [← hV]
  have HY25 : Hid (V24.heap[w.heap.size]? = some (.cells zrow 43 (0, 0))) := by rw [hV]; exact set1_keep HY19.out (by omega) _
  have HY26 : Hid (V24.heap[(w.heap.size + 1)]? = some (.cells #[.slice A ts.length c, .int .i64 s.at_, .bool s.bad] 59 (0, 0))) := by rw [hV]; exact set1_keep HY20.out (by omega) _
  have HY27 : Hid (V24.heap[w1.heap.size]? = some (.cells #[.int .i64 1, .int .i32 nn, .string ⟨#[]⟩, .slice none 0 0] 43 (0, 0))) := by rw [hV]; exact set1_keep HY21.out (by omega) _
  have HY28 : Hid (V24.heap[wn.heap.size]? = some (.cells #[.int .i64 kd, .string ⟨tx.toArray⟩, .int .i32 nn, .int .i64 pl] 40 (0, 0))) := by rw [hV]; exact set1_keep HY22.out (by omega) _
  have HK29 : Hid (Took w bp 61 A c ts s.adv V24) := by rw [hV]; exact HK23.out.step HL.out.2
  clear hV HY19 HY20 HY21 HY22 HK23
  clear q0 q1 q2 q3 q4 q5
  clear HY28
  go_wp2_with fail
  refine (HTF.out _ HK29.out.1).mono ?_
  rintro e w30 ⟨rfl, hk⟩
  have HY31 := Lib.hid (hk.row HY25.out (by omega))
  have HY32 := Lib.hid (hk.row HY26.out (by omega))
  have HY33 := Lib.hid (hk.row HY27.out (by omega))
  have HK34 := Lib.hid (HK29.out.trans hk)
  clear HY25 HY26 HY27 HK29
  clear hk
  obtain ⟨k0, k1, k2, k3, k4, k5, k6, k7⟩ := row4 HY31.out
  obtain ⟨m0, m1, m2, m3, m4, m5, m6, m7⟩ := row4 HY33.out
  go_wp2_with fail
  exact ret_row_tmp 2 3 rfl rfl rfl rfl (setrow4 HY31.out _ _ _ _) Try.underlying43 infoExS ⟨none, 0, rfl, by rw [at_eq]; exact atL_nil _ _ _, took_set4 HK34.out.1 HK34.out.2 HR.out (Nat.le_refl _) _ _ _ _⟩
set_option maxRecDepth 100000 in
set_option maxHeartbeats 16000000 in
theorem first_e (bp : Nat) (A : Option Addr) (c : Nat) (ts : List Lx.Tok) (s : St) (h0 : sees ts s [45] = false) (h1 : isKind ts s 2 = true) (h2 : sees ts s.adv wFby = false) (w : World) (h : RowAt w bp 61 A c ts s) :
    Calls Try.prog 68 #[.pointer (some ⟨bp, 0, none⟩)] w (FirstPost w bp A c ts s (none)) := by
  have HR := Lib.hid h
  have hbw := h.lt
  have hlen := h.len
  have hle0 := h.le
  obtain ⟨q0, q1, q2, q3, q4, q5⟩ := row6 h
  clear h

  have HTM := Lib.hid (fun W h => take_any bp A c ts s [45] W h)
  rw [h0, if_neg (by decide)] at HTM
  have HNX := Lib.hid (next_any bp A c ts s)
  generalize hcu : cur ts s = cu at *
  generalize has ts s = hh at *
  obtain ⟨kd, tx, nn, pl⟩ := cu
  unfold tokAgg at HNX
  dsimp only at *
  have hkd := isKind_kd (k := 2) hcu (by decide)
  rw [h1] at hkd
  have HL := Lib.hid (isKind_lt h1)
  have HTF := Lib.hid (fun W h => take_any bp A c ts s.adv wFby W h)
  rw [h2, if_neg (by decide)] at HTF
  unfold wFby at HTF
  clear h0 h1 h2 hcu
  go_enter Try.func68, Try.ntmps68
  go_wp2_with fail
  obtain ⟨W0, hW0⟩ : ∃ W0, W0 = (w.alloc (.cells zrow 43)).alloc (.cells #[.slice A ts.length c, .int .i64 s.at_, .bool s.bad] 59) := ⟨_, rfl⟩
  unfold zrow at hW0
  rw [← hW0]
  have HZ0 : Hid (W0.heap[w.heap.size]? = some (.cells zrow 43 (0, 0))) := by rw [hW0]; exact row_alloc (heap_alloc_new _ _) _
  have HF0 : Hid (W0.heap[w.heap.size + 1]? = some (.cells #[.slice A ts.length c, .int .i64 s.at_, .bool s.bad] 59 (0, 0))) := by
    have h := heap_alloc_new (w.alloc (.cells zrow 43)) (.cells #[.slice A ts.length c, .int .i64 s.at_, .bool s.bad] 59)
    have e : (w.alloc (.cells zrow 43)).heap.size = w.heap.size + 1 := by simp
    rw [e] at h
    rw [hW0]; exact h
  have HK0 : Hid (Took w bp 61 A c ts s W0) := by rw [hW0]; exact ((took_refl HR.out).alloc _).alloc _
  clear hW0 q0 q1 q2 q3 q4 q5
  refine (HTM.out _ HK0.out.1).mono ?_
  rintro e w1 ⟨rfl, hk⟩
  have HY2 := Lib.hid (hk.row HZ0.out (by omega))
  have HY3 := Lib.hid (hk.row HF0.out (by omega))
  have HK4 := Lib.hid (HK0.out.trans hk)
  clear HZ0 HF0 HK0
  clear hk
  go_wp2_with fail
  have hz_HY2 := (Array.getElem?_eq_some_iff.1 HY2.out).1
  have hz_HY3 := (Array.getElem?_eq_some_iff.1 HY3.out).1
  obtain ⟨W5, hW⟩ : ∃ W, W = w1.alloc (.cells #[.int .i64 2, .int .i32 0, .string ⟨#[]⟩, .slice none 0 0] 43) := ⟨_, rfl⟩
  rw [← hW]
  have hbx : Below w1.heap.size w1 W5 := by rw [hW]; exact (Below.refl _ _).alloc (Nat.le_refl _) _
  have HN5 : Hid (W5.heap[w1.heap.size]? = some (.cells #[.int .i64 2, .int .i32 0, .string ⟨#[]⟩, .slice none 0 0] 43 (0, 0))) := by rw [hW]; exact heap_alloc_new _ _
  have hlo5 : w.heap.size < w1.heap.size := (Array.getElem?_eq_some_iff.1 HY2.out).1
  clear hW
  have HY6 := Lib.hid ((hbx.block _ (Array.getElem?_eq_some_iff.1 HY2.out).1).trans HY2.out)
  have HY7 := Lib.hid ((hbx.block _ (Array.getElem?_eq_some_iff.1 HY3.out).1).trans HY3.out)
  have HK8 := Lib.hid (HK4.out.below hbx)
  clear HY2 HY3 HK4
  clear hbx
  refine (HNX.out _ HK8.out.1).mono ?_
  rintro e wn ⟨rfl, hbn⟩
  have HY9 := Lib.hid ((hbn.block _ (Array.getElem?_eq_some_iff.1 HY6.out).1).trans HY6.out)
  have HY10 := Lib.hid ((hbn.block _ (Array.getElem?_eq_some_iff.1 HY7.out).1).trans HY7.out)
  have HY11 := Lib.hid ((hbn.block _ (Array.getElem?_eq_some_iff.1 HN5.out).1).trans HN5.out)
  have HK12 := Lib.hid (HK8.out.below hbn)
  clear HY6 HY7 HN5 HK8
  clear hbn
  go_upto_region 7 with (fail)
  have hz_HY9 := (Array.getElem?_eq_some_iff.1 HY9.out).1
  have hz_HY10 := (Array.getElem?_eq_some_iff.1 HY10.out).1
  have hz_HY11 := (Array.getElem?_eq_some_iff.1 HY11.out).1
  obtain ⟨W13, hW⟩ : ∃ W, W = wn.alloc (.cells #[.int .i64 kd, .string ⟨tx.toArray⟩, .int .i32 nn, .int .i64 pl] 40) := ⟨_, rfl⟩
  rw [← hW]
  have hbx : Below wn.heap.size wn W13 := by rw [hW]; exact (Below.refl _ _).alloc (Nat.le_refl _) _
  have HN13 : Hid (W13.heap[wn.heap.size]? = some (.cells #[.int .i64 kd, .string ⟨tx.toArray⟩, .int .i32 nn, .int .i64 pl] 40 (0, 0))) := by rw [hW]; exact heap_alloc_new _ _
  have hlo13 : w.heap.size < wn.heap.size := (Array.getElem?_eq_some_iff.1 HY9.out).1
  clear hW
  have HY14 := Lib.hid ((hbx.block _ (Array.getElem?_eq_some_iff.1 HY9.out).1).trans HY9.out)
  have HY15 := Lib.hid ((hbx.block _ (Array.getElem?_eq_some_iff.1 HY10.out).1).trans HY10.out)
  have HY16 := Lib.hid ((hbx.block _ (Array.getElem?_eq_some_iff.1 HY11.out).1).trans HY11.out)
  have HK17 := Lib.hid (HK12.out.below hbx)
  clear HY9 HY10 HY11 HK12
  clear hbx
  have hz_HY14 := (Array.getElem?_eq_some_iff.1 HY14.out).1
  have hz_HY15 := (Array.getElem?_eq_some_iff.1 HY15.out).1
  have hz_HY16 := (Array.getElem?_eq_some_iff.1 HY16.out).1
  have hz_HN13 := (Array.getElem?_eq_some_iff.1 HN13.out).1
  obtain ⟨m0, m1, m2, m3, m4, m5, m6, m7⟩ := row4 HY16.out
  obtain ⟨t0, t1, t2, t3, t4, t5, t6, t7⟩ := row4 HN13.out
  go_upto_region 9 with (fail)
  obtain ⟨V18, hV⟩ : ∃ W, W = (((W13.setCell ⟨w1.heap.size, 0, none⟩ (.int .i64 1)).setCell ⟨w1.heap.size, 1, none⟩ (.int .i32 nn)).setCell ⟨w1.heap.size, 2, none⟩ (.string ⟨#[]⟩)).setCell ⟨w1.heap.size, 3, none⟩ (.slice none 0 0) := ⟨_, rfl⟩
  rw [← hV]
  have HY19 : Hid (V18.heap[w.heap.size]? = some (.cells zrow 43 (0, 0))) := by rw [hV]; exact s4_keep HY14.out (by omega) _ _ _ _
  have HY20 : Hid (V18.heap[(w.heap.size + 1)]? = some (.cells #[.slice A ts.length c, .int .i64 s.at_, .bool s.bad] 59 (0, 0))) := by rw [hV]; exact s4_keep HY15.out (by omega) _ _ _ _
  have HY21 : Hid (V18.heap[w1.heap.size]? = some (.cells #[.int .i64 1, .int .i32 nn, .string ⟨#[]⟩, .slice none 0 0] 43 (0, 0))) := by rw [hV]; exact setrow4 HY16.out _ _ _ _
  have HY22 : Hid (V18.heap[wn.heap.size]? = some (.cells #[.int .i64 kd, .string ⟨tx.toArray⟩, .int .i32 nn, .int .i64 pl] 40 (0, 0))) := by rw [hV]; exact s4_keep HN13.out (by omega) _ _ _ _
  have HK23 : Hid (Took w bp 61 A c ts s V18) := by rw [hV]; exact HK17.out.ours (grown_set4 (bp := bp) (.inr trivial) _ _ _ _) HR.out (by omega)
  clear hV HY14 HY15 HY16 HN13 HK17
  clear m0 m1 m2 m3 m4 m5 m6 m7
  clear t0 t1 t2 t3 t4 t5 t6 t7
  obtain ⟨q0, q1, q2, q3, q4, q5⟩ := row6 HK23.out.1
  have hwr : (s.at_ : Int) + 1 ≤ 9223372036854775807 := by have := HL.out.2; omega
  go_upto_region 13 with (fail)
  obtain ⟨V24, hV⟩ : ∃ W, W = V18.setCell ⟨bp, 1, none⟩ (.int .i64 ((s.at_ : Int) + 1)) := ⟨_, rfl⟩
  rw [← hV]
  have HY25 : Hid (V24.heap[w.heap.size]? = some (.cells zrow 43 (0, 0))) := by rw [hV]; exact set1_keep HY19.out (by omega) _
  have HY26 : Hid (V24.heap[(w.heap.size + 1)]? = some (.cells #[.slice A ts.length c, .int .i64 s.at_, .bool s.bad] 59 (0, 0))) := by rw [hV]; exact set1_keep HY20.out (by omega) _
  have HY27 : Hid (V24.heap[w1.heap.size]? = some (.cells #[.int .i64 1, .int .i32 nn, .string ⟨#[]⟩, .slice none 0 0] 43 (0, 0))) := by rw [hV]; exact set1_keep HY21.out (by omega) _
  have HY28 : Hid (V24.heap[wn.heap.size]? = some (.cells #[.int .i64 kd, .string ⟨tx.toArray⟩, .int .i32 nn, .int .i64 pl] 40 (0, 0))) := by rw [hV]; exact set1_keep HY22.out (by omega) _
  have HK29 : Hid (Took w bp 61 A c ts s.adv V24) := by rw [hV]; exact HK23.out.step HL.out.2
  clear hV HY19 HY20 HY21 HY22 HK23
  clear q0 q1 q2 q3 q4 q5
  clear HY28
  go_wp2_with fail
  refine (HTF.out _ HK29.out.1).mono ?_
  rintro e w30 ⟨rfl, hk⟩
  have HY31 := Lib.hid (hk.row HY25.out (by omega))
  have HY32 := Lib.hid (hk.row HY26.out (by omega))
  have HY33 := Lib.hid (hk.row HY27.out (by omega))
  have HK34 := Lib.hid (HK29.out.trans hk)
  clear HY25 HY26 HY27 HK29
  clear hk
  clear HY33
  obtain ⟨q0, q1, q2, q3, q4, q5⟩ := row6 HK34.out.1
  obtain ⟨k0, k1, k2, k3, k4, k5, k6, k7⟩ := row4 HY31.out
  obtain ⟨f0, f1, f2⟩ := row3 HY32.out
  go_upto_region 15 with (fail)
  obtain ⟨V35, hV⟩ : ∃ W, W = ((w30.setCell ⟨bp, 0, none⟩ (.slice A ts.length c)).setCell ⟨bp, 1, none⟩ (.int .i64 (s.at_ : Int))).setCell ⟨bp, 2, none⟩ (.bool s.bad) := ⟨_, rfl⟩
  rw [← hV]
  have HY36 : Hid (V35.heap[w.heap.size]? = some (.cells zrow 43 (0, 0))) := by rw [hV]; exact set3_keep HY31.out (by omega) _ _ _
  have HY37 : Hid (V35.heap[(w.heap.size + 1)]? = some (.cells #[.slice A ts.length c, .int .i64 s.at_, .bool s.bad] 59 (0, 0))) := by rw [hV]; exact set3_keep HY32.out (by omega) _ _ _
  have HK38 : Hid (Took w bp 61 A c ts s V35) := by rw [hV]; exact HK34.out.back hle0
  clear hV HY31 HY32 HK34
  clear k0 k1 k2 k3 k4 k5 k6 k7
  obtain ⟨k0, k1, k2, k3, k4, k5, k6, k7⟩ := row4 HY36.out
  go_wp2_with fail
  exact ret_row_tmp 2 3 rfl rfl rfl rfl (setrow4 HY36.out _ _ _ _) Try.underlying43 infoExS ⟨rfl, took_set4 HK38.out.1 HK38.out.2 HR.out (Nat.le_refl _) _ _ _ _⟩
set_option maxRecDepth 100000 in
set_option maxHeartbeats 16000000 in
theorem first_f (bp : Nat) (A : Option Addr) (c : Nat) (ts : List Lx.Tok) (s : St) (h0 : sees ts s [45] = false) (h1 : isKind ts s 2 = false) (h2 : sees ts s wTrue = true) (h4 : sees ts s.adv wFby = true) (w : World) (h : RowAt w bp 61 A c ts s) :
    Calls Try.prog 68 #[.pointer (some ⟨bp, 0, none⟩)] w (FirstPost w bp A c ts s (some (.mk 2 1 [] [], s.adv.adv))) := by
  have HR := Lib.hid h
  have hbw := h.lt
  have hlen := h.len
  have hle0 := h.le
  obtain ⟨q0, q1, q2, q3, q4, q5⟩ := row6 h
  clear h

  have HTM := Lib.hid (fun W h => take_any bp A c ts s [45] W h)
  rw [h0, if_neg (by decide)] at HTM
  have HNX := Lib.hid (next_any bp A c ts s)
  generalize hcu : cur ts s = cu at *
  generalize has ts s = hh at *
  obtain ⟨kd, tx, nn, pl⟩ := cu
  unfold tokAgg at HNX
  dsimp only at *
  have hkd := isKind_kd (k := 2) hcu (by decide)
  rw [h1] at hkd
  have HT0 := Lib.hid (fun W h => take_any bp A c ts s wTrue W h)
  rw [h2, if_pos rfl] at HT0
  unfold wTrue at HT0
  have HTF := Lib.hid (fun W h => take_any bp A c ts s.adv wFby W h)
  rw [h4, if_pos rfl] at HTF
  unfold wFby at HTF
  clear h0 h1 h2  hcu
  go_enter Try.func68, Try.ntmps68
  go_wp2_with fail
  obtain ⟨W0, hW0⟩ : ∃ W0, W0 = (w.alloc (.cells zrow 43)).alloc (.cells #[.slice A ts.length c, .int .i64 s.at_, .bool s.bad] 59) := ⟨_, rfl⟩
  unfold zrow at hW0
  rw [← hW0]
  have HZ0 : Hid (W0.heap[w.heap.size]? = some (.cells zrow 43 (0, 0))) := by rw [hW0]; exact row_alloc (heap_alloc_new _ _) _
  have HF0 : Hid (W0.heap[w.heap.size + 1]? = some (.cells #[.slice A ts.length c, .int .i64 s.at_, .bool s.bad] 59 (0, 0))) := by
    have h := heap_alloc_new (w.alloc (.cells zrow 43)) (.cells #[.slice A ts.length c, .int .i64 s.at_, .bool s.bad] 59)
    have e : (w.alloc (.cells zrow 43)).heap.size = w.heap.size + 1 := by simp
    rw [e] at h
    rw [hW0]; exact h
  have HK0 : Hid (Took w bp 61 A c ts s W0) := by rw [hW0]; exact ((took_refl HR.out).alloc _).alloc _
  clear hW0 q0 q1 q2 q3 q4 q5
  refine (HTM.out _ HK0.out.1).mono ?_
  rintro e w1 ⟨rfl, hk⟩
  have HY2 := Lib.hid (hk.row HZ0.out (by omega))
  have HY3 := Lib.hid (hk.row HF0.out (by omega))
  have HK4 := Lib.hid (HK0.out.trans hk)
  clear HZ0 HF0 HK0
  clear hk
  go_wp2_with fail
  have hz_HY2 := (Array.getElem?_eq_some_iff.1 HY2.out).1
  have hz_HY3 := (Array.getElem?_eq_some_iff.1 HY3.out).1
  obtain ⟨W5, hW⟩ : ∃ W, W = w1.alloc (.cells #[.int .i64 2, .int .i32 0, .string ⟨#[]⟩, .slice none 0 0] 43) := ⟨_, rfl⟩
  rw [← hW]
  have hbx : Below w1.heap.size w1 W5 := by rw [hW]; exact (Below.refl _ _).alloc (Nat.le_refl _) _
  have HN5 : Hid (W5.heap[w1.heap.size]? = some (.cells #[.int .i64 2, .int .i32 0, .string ⟨#[]⟩, .slice none 0 0] 43 (0, 0))) := by rw [hW]; exact heap_alloc_new _ _
  have hlo5 : w.heap.size < w1.heap.size := (Array.getElem?_eq_some_iff.1 HY2.out).1
  clear hW
  have HY6 := Lib.hid ((hbx.block _ (Array.getElem?_eq_some_iff.1 HY2.out).1).trans HY2.out)
  have HY7 := Lib.hid ((hbx.block _ (Array.getElem?_eq_some_iff.1 HY3.out).1).trans HY3.out)
  have HK8 := Lib.hid (HK4.out.below hbx)
  clear HY2 HY3 HK4
  clear hbx
  refine (HNX.out _ HK8.out.1).mono ?_
  rintro e wn ⟨rfl, hbn⟩
  have HY9 := Lib.hid ((hbn.block _ (Array.getElem?_eq_some_iff.1 HY6.out).1).trans HY6.out)
  have HY10 := Lib.hid ((hbn.block _ (Array.getElem?_eq_some_iff.1 HY7.out).1).trans HY7.out)
  have HY11 := Lib.hid ((hbn.block _ (Array.getElem?_eq_some_iff.1 HN5.out).1).trans HN5.out)
  have HK12 := Lib.hid (HK8.out.below hbn)
  clear HY6 HY7 HN5 HK8
  clear hbn
  go_upto_region 7 with (fail)
  have hz_HY9 := (Array.getElem?_eq_some_iff.1 HY9.out).1
  have hz_HY10 := (Array.getElem?_eq_some_iff.1 HY10.out).1
  have hz_HY11 := (Array.getElem?_eq_some_iff.1 HY11.out).1
  obtain ⟨W13, hW⟩ : ∃ W, W = wn.alloc (.cells #[.int .i64 kd, .string ⟨tx.toArray⟩, .int .i32 nn, .int .i64 pl] 40) := ⟨_, rfl⟩
  rw [← hW]
  have hbx : Below wn.heap.size wn W13 := by rw [hW]; exact (Below.refl _ _).alloc (Nat.le_refl _) _
  have HN13 : Hid (W13.heap[wn.heap.size]? = some (.cells #[.int .i64 kd, .string ⟨tx.toArray⟩, .int .i32 nn, .int .i64 pl] 40 (0, 0))) := by rw [hW]; exact heap_alloc_new _ _
  have hlo13 : w.heap.size < wn.heap.size := (Array.getElem?_eq_some_iff.1 HY9.out).1
  clear hW
  have HY14 := Lib.hid ((hbx.block _ (Array.getElem?_eq_some_iff.1 HY9.out).1).trans HY9.out)
  have HY15 := Lib.hid ((hbx.block _ (Array.getElem?_eq_some_iff.1 HY10.out).1).trans HY10.out)
  have HY16 := Lib.hid ((hbx.block _ (Array.getElem?_eq_some_iff.1 HY11.out).1).trans HY11.out)
  have HK17 := Lib.hid (HK12.out.below hbx)
  clear HY9 HY10 HY11 HK12
  clear hbx
  have hz_HY14 := (Array.getElem?_eq_some_iff.1 HY14.out).1
  have hz_HY15 := (Array.getElem?_eq_some_iff.1 HY15.out).1
  have hz_HY16 := (Array.getElem?_eq_some_iff.1 HY16.out).1
  have hz_HN13 := (Array.getElem?_eq_some_iff.1 HN13.out).1
  obtain ⟨t0, t1, t2, t3, t4, t5, t6, t7⟩ := row4 HN13.out
  go_wp2_with fail
  clear HN13
  refine (HT0.out _ HK17.out.1).mono ?_
  rintro e w18 ⟨rfl, hk⟩
  have HY19 := Lib.hid (hk.row HY14.out (by omega))
  have HY20 := Lib.hid (hk.row HY15.out (by omega))
  have HY21 := Lib.hid (hk.row HY16.out (by omega))
  have HK22 := Lib.hid (HK17.out.trans hk)
  clear HY14 HY15 HY16 HK17
  clear hk
  obtain ⟨m0, m1, m2, m3, m4, m5, m6, m7⟩ := row4 HY21.out
  go_upto_region 13 with (fail)
  obtain ⟨V23, hV⟩ : ∃ W, W = w18.setCell ⟨w1.heap.size, 1, none⟩ (.int .i32 1) := ⟨_, rfl⟩
  rw [← hV]
  have HY24 : Hid (V23.heap[w.heap.size]? = some (.cells zrow 43 (0, 0))) := by rw [hV]; exact set1_keep HY19.out (by omega) _
  have HY25 : Hid (V23.heap[(w.heap.size + 1)]? = some (.cells #[.slice A ts.length c, .int .i64 s.at_, .bool s.bad] 59 (0, 0))) := by rw [hV]; exact set1_keep HY20.out (by omega) _
  have HY26 : Hid (V23.heap[w1.heap.size]? = some (.cells #[.int .i64 2, .int .i32 1, .string ⟨#[]⟩, .slice none 0 0] 43 (0, 0))) := by rw [hV]; exact set1_row HY21.out _
  have HK27 : Hid (Took w bp 61 A c ts s.adv V23) := by rw [hV]; exact HK22.out.ours (grown_setCell _ _ _ _) HR.out (by omega)
  clear hV HY19 HY20 HY21 HK22
  clear m0 m1 m2 m3 m4 m5 m6 m7
  go_wp2_with fail
  refine (HTF.out _ HK27.out.1).mono ?_
  rintro e w28 ⟨rfl, hk⟩
  have HY29 := Lib.hid (hk.row HY24.out (by omega))
  have HY30 := Lib.hid (hk.row HY25.out (by omega))
  have HY31 := Lib.hid (hk.row HY26.out (by omega))
  have HK32 := Lib.hid (HK27.out.trans hk)
  clear HY24 HY25 HY26 HK27
  clear hk
  obtain ⟨k0, k1, k2, k3, k4, k5, k6, k7⟩ := row4 HY29.out
  obtain ⟨m0, m1, m2, m3, m4, m5, m6, m7⟩ := row4 HY31.out
  go_wp2_with fail
  exact ret_row_tmp 2 3 rfl rfl rfl rfl (setrow4 HY29.out _ _ _ _) Try.underlying43 infoExS ⟨none, 0, rfl, by rw [at_eq]; exact atL_nil _ _ _, took_set4 HK32.out.1 HK32.out.2 HR.out (Nat.le_refl _) _ _ _ _⟩
set_option maxRecDepth 100000 in
set_option maxHeartbeats 16000000 in
theorem first_g (bp : Nat) (A : Option Addr) (c : Nat) (ts : List Lx.Tok) (s : St) (h0 : sees ts s [45] = false) (h1 : isKind ts s 2 = false) (h2 : sees ts s wTrue = true) (h4 : sees ts s.adv wFby = false) (w : World) (h : RowAt w bp 61 A c ts s) :
    Calls Try.prog 68 #[.pointer (some ⟨bp, 0, none⟩)] w (FirstPost w bp A c ts s (none)) := by
  have HR := Lib.hid h
  have hbw := h.lt
  have hlen := h.len
  have hle0 := h.le
  obtain ⟨q0, q1, q2, q3, q4, q5⟩ := row6 h
  clear h

  have HTM := Lib.hid (fun W h => take_any bp A c ts s [45] W h)
  rw [h0, if_neg (by decide)] at HTM
  have HNX := Lib.hid (next_any bp A c ts s)
  generalize hcu : cur ts s = cu at *
  generalize has ts s = hh at *
  obtain ⟨kd, tx, nn, pl⟩ := cu
  unfold tokAgg at HNX
  dsimp only at *
  have hkd := isKind_kd (k := 2) hcu (by decide)
  rw [h1] at hkd
  have HT0 := Lib.hid (fun W h => take_any bp A c ts s wTrue W h)
  rw [h2, if_pos rfl] at HT0
  unfold wTrue at HT0
  have HTF := Lib.hid (fun W h => take_any bp A c ts s.adv wFby W h)
  rw [h4, if_neg (by decide)] at HTF
  unfold wFby at HTF
  clear h0 h1 h2  hcu
  go_enter Try.func68, Try.ntmps68
  go_wp2_with fail
  obtain ⟨W0, hW0⟩ : ∃ W0, W0 = (w.alloc (.cells zrow 43)).alloc (.cells #[.slice A ts.length c, .int .i64 s.at_, .bool s.bad] 59) := ⟨_, rfl⟩
  unfold zrow at hW0
  rw [← hW0]
  have HZ0 : Hid (W0.heap[w.heap.size]? = some (.cells zrow 43 (0, 0))) := by rw [hW0]; exact row_alloc (heap_alloc_new _ _) _
  have HF0 : Hid (W0.heap[w.heap.size + 1]? = some (.cells #[.slice A ts.length c, .int .i64 s.at_, .bool s.bad] 59 (0, 0))) := by
    have h := heap_alloc_new (w.alloc (.cells zrow 43)) (.cells #[.slice A ts.length c, .int .i64 s.at_, .bool s.bad] 59)
    have e : (w.alloc (.cells zrow 43)).heap.size = w.heap.size + 1 := by simp
    rw [e] at h
    rw [hW0]; exact h
  have HK0 : Hid (Took w bp 61 A c ts s W0) := by rw [hW0]; exact ((took_refl HR.out).alloc _).alloc _
  clear hW0 q0 q1 q2 q3 q4 q5
  refine (HTM.out _ HK0.out.1).mono ?_
  rintro e w1 ⟨rfl, hk⟩
  have HY2 := Lib.hid (hk.row HZ0.out (by omega))
  have HY3 := Lib.hid (hk.row HF0.out (by omega))
  have HK4 := Lib.hid (HK0.out.trans hk)
  clear HZ0 HF0 HK0
  clear hk
  go_wp2_with fail
  have hz_HY2 := (Array.getElem?_eq_some_iff.1 HY2.out).1
  have hz_HY3 := (Array.getElem?_eq_some_iff.1 HY3.out).1
  obtain ⟨W5, hW⟩ : ∃ W, W = w1.alloc (.cells #[.int .i64 2, .int .i32 0, .string ⟨#[]⟩, .slice none 0 0] 43) := ⟨_, rfl⟩
  rw [← hW]
  have hbx : Below w1.heap.size w1 W5 := by rw [hW]; exact (Below.refl _ _).alloc (Nat.le_refl _) _
  have HN5 : Hid (W5.heap[w1.heap.size]? = some (.cells #[.int .i64 2, .int .i32 0, .string ⟨#[]⟩, .slice none 0 0] 43 (0, 0))) := by rw [hW]; exact heap_alloc_new _ _
  have hlo5 : w.heap.size < w1.heap.size := (Array.getElem?_eq_some_iff.1 HY2.out).1
  clear hW
  have HY6 := Lib.hid ((hbx.block _ (Array.getElem?_eq_some_iff.1 HY2.out).1).trans HY2.out)
  have HY7 := Lib.hid ((hbx.block _ (Array.getElem?_eq_some_iff.1 HY3.out).1).trans HY3.out)
  have HK8 := Lib.hid (HK4.out.below hbx)
  clear HY2 HY3 HK4
  clear hbx
  refine (HNX.out _ HK8.out.1).mono ?_
  rintro e wn ⟨rfl, hbn⟩
  have HY9 := Lib.hid ((hbn.block _ (Array.getElem?_eq_some_iff.1 HY6.out).1).trans HY6.out)
  have HY10 := Lib.hid ((hbn.block _ (Array.getElem?_eq_some_iff.1 HY7.out).1).trans HY7.out)
  have HY11 := Lib.hid ((hbn.block _ (Array.getElem?_eq_some_iff.1 HN5.out).1).trans HN5.out)
  have HK12 := Lib.hid (HK8.out.below hbn)
  clear HY6 HY7 HN5 HK8
  clear hbn
  go_upto_region 7 with (fail)
  have hz_HY9 := (Array.getElem?_eq_some_iff.1 HY9.out).1
  have hz_HY10 := (Array.getElem?_eq_some_iff.1 HY10.out).1
  have hz_HY11 := (Array.getElem?_eq_some_iff.1 HY11.out).1
  obtain ⟨W13, hW⟩ : ∃ W, W = wn.alloc (.cells #[.int .i64 kd, .string ⟨tx.toArray⟩, .int .i32 nn, .int .i64 pl] 40) := ⟨_, rfl⟩
  rw [← hW]
  have hbx : Below wn.heap.size wn W13 := by rw [hW]; exact (Below.refl _ _).alloc (Nat.le_refl _) _
  have HN13 : Hid (W13.heap[wn.heap.size]? = some (.cells #[.int .i64 kd, .string ⟨tx.toArray⟩, .int .i32 nn, .int .i64 pl] 40 (0, 0))) := by rw [hW]; exact heap_alloc_new _ _
  have hlo13 : w.heap.size < wn.heap.size := (Array.getElem?_eq_some_iff.1 HY9.out).1
  clear hW
  have HY14 := Lib.hid ((hbx.block _ (Array.getElem?_eq_some_iff.1 HY9.out).1).trans HY9.out)
  have HY15 := Lib.hid ((hbx.block _ (Array.getElem?_eq_some_iff.1 HY10.out).1).trans HY10.out)
  have HY16 := Lib.hid ((hbx.block _ (Array.getElem?_eq_some_iff.1 HY11.out).1).trans HY11.out)
  have HK17 := Lib.hid (HK12.out.below hbx)
  clear HY9 HY10 HY11 HK12
  clear hbx
  have hz_HY14 := (Array.getElem?_eq_some_iff.1 HY14.out).1
  have hz_HY15 := (Array.getElem?_eq_some_iff.1 HY15.out).1
  have hz_HY16 := (Array.getElem?_eq_some_iff.1 HY16.out).1
  have hz_HN13 := (Array.getElem?_eq_some_iff.1 HN13.out).1
  obtain ⟨t0, t1, t2, t3, t4, t5, t6, t7⟩ := row4 HN13.out
  go_wp2_with fail
  clear HN13
  refine (HT0.out _ HK17.out.1).mono ?_
  rintro e w18 ⟨rfl, hk⟩
  have HY19 := Lib.hid (hk.row HY14.out (by omega))
  have HY20 := Lib.hid (hk.row HY15.out (by omega))
  have HY21 := Lib.hid (hk.row HY16.out (by omega))
  have HK22 := Lib.hid (HK17.out.trans hk)
  clear HY14 HY15 HY16 HK17
  clear hk
  obtain ⟨m0, m1, m2, m3, m4, m5, m6, m7⟩ := row4 HY21.out
  go_upto_region 13 with (fail)
  obtain ⟨V23, hV⟩ : ∃ W, W = w18.setCell ⟨w1.heap.size, 1, none⟩ (.int .i32 1) := ⟨_, rfl⟩
  rw [← hV]
  have HY24 : Hid (V23.heap[w.heap.size]? = some (.cells zrow 43 (0, 0))) := by rw [hV]; exact set1_keep HY19.out (by omega) _
  have HY25 : Hid (V23.heap[(w.heap.size + 1)]? = some (.cells #[.slice A ts.length c, .int .i64 s.at_, .bool s.bad] 59 (0, 0))) := by rw [hV]; exact set1_keep HY20.out (by omega) _
  have HY26 : Hid (V23.heap[w1.heap.size]? = some (.cells #[.int .i64 2, .int .i32 1, .string ⟨#[]⟩, .slice none 0 0] 43 (0, 0))) := by rw [hV]; exact set1_row HY21.out _
  have HK27 : Hid (Took w bp 61 A c ts s.adv V23) := by rw [hV]; exact HK22.out.ours (grown_setCell _ _ _ _) HR.out (by omega)
  clear hV HY19 HY20 HY21 HK22
  clear m0 m1 m2 m3 m4 m5 m6 m7
  go_wp2_with fail
  refine (HTF.out _ HK27.out.1).mono ?_
  rintro e w28 ⟨rfl, hk⟩
  have HY29 := Lib.hid (hk.row HY24.out (by omega))
  have HY30 := Lib.hid (hk.row HY25.out (by omega))
  have HY31 := Lib.hid (hk.row HY26.out (by omega))
  have HK32 := Lib.hid (HK27.out.trans hk)
  clear HY24 HY25 HY26 HK27
  clear hk
  clear HY31
  obtain ⟨q0, q1, q2, q3, q4, q5⟩ := row6 HK32.out.1
  obtain ⟨k0, k1, k2, k3, k4, k5, k6, k7⟩ := row4 HY29.out
  obtain ⟨f0, f1, f2⟩ := row3 HY30.out
  go_upto_region 15 with (fail)
  obtain ⟨V33, hV⟩ : ∃ W, W = ((w28.setCell ⟨bp, 0, none⟩ (.slice A ts.length c)).setCell ⟨bp, 1, none⟩ (.int .i64 (s.at_ : Int))).setCell ⟨bp, 2, none⟩ (.bool s.bad) := ⟨_, rfl⟩
  rw [← hV]
  have HY34 : Hid (V33.heap[w.heap.size]? = some (.cells zrow 43 (0, 0))) := by rw [hV]; exact set3_keep HY29.out (by omega) _ _ _
  have HY35 : Hid (V33.heap[(w.heap.size + 1)]? = some (.cells #[.slice A ts.length c, .int .i64 s.at_, .bool s.bad] 59 (0, 0))) := by rw [hV]; exact set3_keep HY30.out (by omega) _ _ _
  have HK36 : Hid (Took w bp 61 A c ts s V33) := by rw [hV]; exact HK32.out.back hle0
  clear hV HY29 HY30 HK32
  clear k0 k1 k2 k3 k4 k5 k6 k7
  obtain ⟨k0, k1, k2, k3, k4, k5, k6, k7⟩ := row4 HY34.out
  go_wp2_with fail
  exact ret_row_tmp 2 3 rfl rfl rfl rfl (setrow4 HY34.out _ _ _ _) Try.underlying43 infoExS ⟨rfl, took_set4 HK36.out.1 HK36.out.2 HR.out (Nat.le_refl _) _ _ _ _⟩
set_option maxRecDepth 100000 in
set_option maxHeartbeats 16000000 in
theorem first_h (bp : Nat) (A : Option Addr) (c : Nat) (ts : List Lx.Tok) (s : St) (h0 : sees ts s [45] = false) (h1 : isKind ts s 2 = false) (h2 : sees ts s wTrue = false) (h3 : sees ts s wFalse = true) (h4 : sees ts s.adv wFby = true) (w : World) (h : RowAt w bp 61 A c ts s) :
    Calls Try.prog 68 #[.pointer (some ⟨bp, 0, none⟩)] w (FirstPost w bp A c ts s (some (.mk 2 0 [] [], s.adv.adv))) := by
  have HR := Lib.hid h
  have hbw := h.lt
  have hlen := h.len
  have hle0 := h.le
  obtain ⟨q0, q1, q2, q3, q4, q5⟩ := row6 h
  clear h

  have HTM := Lib.hid (fun W h => take_any bp A c ts s [45] W h)
  rw [h0, if_neg (by decide)] at HTM
  have HNX := Lib.hid (next_any bp A c ts s)
  generalize hcu : cur ts s = cu at *
  generalize has ts s = hh at *
  obtain ⟨kd, tx, nn, pl⟩ := cu
  unfold tokAgg at HNX
  dsimp only at *
  have hkd := isKind_kd (k := 2) hcu (by decide)
  rw [h1] at hkd
  have HT0 := Lib.hid (fun W h => take_any bp A c ts s wTrue W h)
  rw [h2, if_neg (by decide)] at HT0
  unfold wTrue at HT0
  have HT1 := Lib.hid (fun W h => take_any bp A c ts s wFalse W h)
  rw [h3, if_pos rfl] at HT1
  unfold wFalse at HT1
  have HTF := Lib.hid (fun W h => take_any bp A c ts s.adv wFby W h)
  rw [h4, if_pos rfl] at HTF
  unfold wFby at HTF
  clear h0 h1 h2 h3 hcu
  go_enter Try.func68, Try.ntmps68
  go_wp2_with fail
  obtain ⟨W0, hW0⟩ : ∃ W0, W0 = (w.alloc (.cells zrow 43)).alloc (.cells #[.slice A ts.length c, .int .i64 s.at_, .bool s.bad] 59) := ⟨_, rfl⟩
  unfold zrow at hW0
  rw [← hW0]
  have HZ0 : Hid (W0.heap[w.heap.size]? = some (.cells zrow 43 (0, 0))) := by rw [hW0]; exact row_alloc (heap_alloc_new _ _) _
  have HF0 : Hid (W0.heap[w.heap.size + 1]? = some (.cells #[.slice A ts.length c, .int .i64 s.at_, .bool s.bad] 59 (0, 0))) := by
    have h := heap_alloc_new (w.alloc (.cells zrow 43)) (.cells #[.slice A ts.length c, .int .i64 s.at_, .bool s.bad] 59)
    have e : (w.alloc (.cells zrow 43)).heap.size = w.heap.size + 1 := by simp
    rw [e] at h
    rw [hW0]; exact h
  have HK0 : Hid (Took w bp 61 A c ts s W0) := by rw [hW0]; exact ((took_refl HR.out).alloc _).alloc _
  clear hW0 q0 q1 q2 q3 q4 q5
  refine (HTM.out _ HK0.out.1).mono ?_
  rintro e w1 ⟨rfl, hk⟩
  have HY2 := Lib.hid (hk.row HZ0.out (by omega))
  have HY3 := Lib.hid (hk.row HF0.out (by omega))
  have HK4 := Lib.hid (HK0.out.trans hk)
  clear HZ0 HF0 HK0
  clear hk
  go_wp2_with fail
  have hz_HY2 := (Array.getElem?_eq_some_iff.1 HY2.out).1
  have hz_HY3 := (Array.getElem?_eq_some_iff.1 HY3.out).1
  obtain ⟨W5, hW⟩ : ∃ W, W = w1.alloc (.cells #[.int .i64 2, .int .i32 0, .string ⟨#[]⟩, .slice none 0 0] 43) := ⟨_, rfl⟩
  rw [← hW]
  have hbx : Below w1.heap.size w1 W5 := by rw [hW]; exact (Below.refl _ _).alloc (Nat.le_refl _) _
  have HN5 : Hid (W5.heap[w1.heap.size]? = some (.cells #[.int .i64 2, .int .i32 0, .string ⟨#[]⟩, .slice none 0 0] 43 (0, 0))) := by rw [hW]; exact heap_alloc_new _ _
  have hlo5 : w.heap.size < w1.heap.size := (Array.getElem?_eq_some_iff.1 HY2.out).1
  clear hW
  have HY6 := Lib.hid ((hbx.block _ (Array.getElem?_eq_some_iff.1 HY2.out).1).trans HY2.out)
  have HY7 := Lib.hid ((hbx.block _ (Array.getElem?_eq_some_iff.1 HY3.out).1).trans HY3.out)
  have HK8 := Lib.hid (HK4.out.below hbx)
  clear HY2 HY3 HK4
  clear hbx
  refine (HNX.out _ HK8.out.1).mono ?_
  rintro e wn ⟨rfl, hbn⟩
  have HY9 := Lib.hid ((hbn.block _ (Array.getElem?_eq_some_iff.1 HY6.out).1).trans HY6.out)
  have HY10 := Lib.hid ((hbn.block _ (Array.getElem?_eq_some_iff.1 HY7.out).1).trans HY7.out)
  have HY11 := Lib.hid ((hbn.block _ (Array.getElem?_eq_some_iff.1 HN5.out).1).trans HN5.out)
  have HK12 := Lib.hid (HK8.out.below hbn)
  clear HY6 HY7 HN5 HK8
  clear hbn
  go_upto_region 7 with (fail)
  have hz_HY9 := (Array.getElem?_eq_some_iff.1 HY9.out).1
  have hz_HY10 := (Array.getElem?_eq_some_iff.1 HY10.out).1
  have hz_HY11 := (Array.getElem?_eq_some_iff.1 HY11.out).1
  obtain ⟨W13, hW⟩ : ∃ W, W = wn.alloc (.cells #[.int .i64 kd, .string ⟨tx.toArray⟩, .int .i32 nn, .int .i64 pl] 40) := ⟨_, rfl⟩
  rw [← hW]
  have hbx : Below wn.heap.size wn W13 := by rw [hW]; exact (Below.refl _ _).alloc (Nat.le_refl _) _
  have HN13 : Hid (W13.heap[wn.heap.size]? = some (.cells #[.int .i64 kd, .string ⟨tx.toArray⟩, .int .i32 nn, .int .i64 pl] 40 (0, 0))) := by rw [hW]; exact heap_alloc_new _ _
  have hlo13 : w.heap.size < wn.heap.size := (Array.getElem?_eq_some_iff.1 HY9.out).1
  clear hW
  have HY14 := Lib.hid ((hbx.block _ (Array.getElem?_eq_some_iff.1 HY9.out).1).trans HY9.out)
  have HY15 := Lib.hid ((hbx.block _ (Array.getElem?_eq_some_iff.1 HY10.out).1).trans HY10.out)
  have HY16 := Lib.hid ((hbx.block _ (Array.getElem?_eq_some_iff.1 HY11.out).1).trans HY11.out)
  have HK17 := Lib.hid (HK12.out.below hbx)
  clear HY9 HY10 HY11 HK12
  clear hbx
  have hz_HY14 := (Array.getElem?_eq_some_iff.1 HY14.out).1
  have hz_HY15 := (Array.getElem?_eq_some_iff.1 HY15.out).1
  have hz_HY16 := (Array.getElem?_eq_some_iff.1 HY16.out).1
  have hz_HN13 := (Array.getElem?_eq_some_iff.1 HN13.out).1
  obtain ⟨t0, t1, t2, t3, t4, t5, t6, t7⟩ := row4 HN13.out
  go_wp2_with fail
  clear HN13
  refine (HT0.out _ HK17.out.1).mono ?_
  rintro e w18 ⟨rfl, hk⟩
  have HY19 := Lib.hid (hk.row HY14.out (by omega))
  have HY20 := Lib.hid (hk.row HY15.out (by omega))
  have HY21 := Lib.hid (hk.row HY16.out (by omega))
  have HK22 := Lib.hid (HK17.out.trans hk)
  clear HY14 HY15 HY16 HK17
  clear hk
  go_wp2_with fail
  refine (HT1.out _ HK22.out.1).mono ?_
  rintro e w23 ⟨rfl, hk⟩
  have HY24 := Lib.hid (hk.row HY19.out (by omega))
  have HY25 := Lib.hid (hk.row HY20.out (by omega))
  have HY26 := Lib.hid (hk.row HY21.out (by omega))
  have HK27 := Lib.hid (HK22.out.trans hk)
  clear HY19 HY20 HY21 HK22
  clear hk
  go_wp2_with fail
  refine (HTF.out _ HK27.out.1).mono ?_
  rintro e w28 ⟨rfl, hk⟩
  have HY29 := Lib.hid (hk.row HY24.out (by omega))
  have HY30 := Lib.hid (hk.row HY25.out (by omega))
  have HY31 := Lib.hid (hk.row HY26.out (by omega))
  have HK32 := Lib.hid (HK27.out.trans hk)
  clear HY24 HY25 HY26 HK27
  clear hk
  obtain ⟨k0, k1, k2, k3, k4, k5, k6, k7⟩ := row4 HY29.out
  obtain ⟨m0, m1, m2, m3, m4, m5, m6, m7⟩ := row4 HY31.out
  go_wp2_with fail
  exact ret_row_tmp 2 3 rfl rfl rfl rfl (setrow4 HY29.out _ _ _ _) Try.underlying43 infoExS ⟨none, 0, rfl, by rw [at_eq]; exact atL_nil _ _ _, took_set4 HK32.out.1 HK32.out.2 HR.out (Nat.le_refl _) _ _ _ _⟩
set_option maxRecDepth 100000 in
set_option maxHeartbeats 16000000 in
theorem first_i (bp : Nat) (A : Option Addr) (c : Nat) (ts : List Lx.Tok) (s : St) (h0 : sees ts s [45] = false) (h1 : isKind ts s 2 = false) (h2 : sees ts s wTrue = false) (h3 : sees ts s wFalse = true) (h4 : sees ts s.adv wFby = false) (w : World) (h : RowAt w bp 61 A c ts s) :
    Calls Try.prog 68 #[.pointer (some ⟨bp, 0, none⟩)] w (FirstPost w bp A c ts s (none)) := by
  have HR := Lib.hid h
  have hbw := h.lt
  have hlen := h.len
  have hle0 := h.le
  obtain ⟨q0, q1, q2, q3, q4, q5⟩ := row6 h
  clear h

  have HTM := Lib.hid (fun W h => take_any bp A c ts s [45] W h)
  rw [h0, if_neg (by decide)] at HTM
  have HNX := Lib.hid (next_any bp A c ts s)
  generalize hcu : cur ts s = cu at *
  generalize has ts s = hh at *
  obtain ⟨kd, tx, nn, pl⟩ := cu
  unfold tokAgg at HNX
  dsimp only at *
  have hkd := isKind_kd (k := 2) hcu (by decide)
  rw [h1] at hkd
  have HT0 := Lib.hid (fun W h => take_any bp A c ts s wTrue W h)
  rw [h2, if_neg (by decide)] at HT0
  unfold wTrue at HT0
  have HT1 := Lib.hid (fun W h => take_any bp A c ts s wFalse W h)
  rw [h3, if_pos rfl] at HT1
  unfold wFalse at HT1
  have HTF := Lib.hid (fun W h => take_any bp A c ts s.adv wFby W h)
  rw [h4, if_neg (by decide)] at HTF
  unfold wFby at HTF
  clear h0 h1 h2 h3 hcu
  go_enter Try.func68, Try.ntmps68
  go_wp2_with fail
  obtain ⟨W0, hW0⟩ : ∃ W0, W0 = (w.alloc (.cells zrow 43)).alloc (.cells #[.slice A ts.length c, .int .i64 s.at_, .bool s.bad] 59) := ⟨_, rfl⟩
  unfold zrow at hW0
  rw [← hW0]
  have HZ0 : Hid (W0.heap[w.heap.size]? = some (.cells zrow 43 (0, 0))) := by rw [hW0]; exact row_alloc (heap_alloc_new _ _) _
  have HF0 : Hid (W0.heap[w.heap.size + 1]? = some (.cells #[.slice A ts.length c, .int .i64 s.at_, .bool s.bad] 59 (0, 0))) := by
    have h := heap_alloc_new (w.alloc (.cells zrow 43)) (.cells #[.slice A ts.length c, .int .i64 s.at_, .bool s.bad] 59)
    have e : (w.alloc (.cells zrow 43)).heap.size = w.heap.size + 1 := by simp
    rw [e] at h
    rw [hW0]; exact h
  have HK0 : Hid (Took w bp 61 A c ts s W0) := by rw [hW0]; exact ((took_refl HR.out).alloc _).alloc _
  clear hW0 q0 q1 q2 q3 q4 q5
  refine (HTM.out _ HK0.out.1).mono ?_
  rintro e w1 ⟨rfl, hk⟩
  have HY2 := Lib.hid (hk.row HZ0.out (by omega))
  have HY3 := Lib.hid (hk.row HF0.out (by omega))
  have HK4 := Lib.hid (HK0.out.trans hk)
  clear HZ0 HF0 HK0
  clear hk
  go_wp2_with fail
  have hz_HY2 := (Array.getElem?_eq_some_iff.1 HY2.out).1
  have hz_HY3 := (Array.getElem?_eq_some_iff.1 HY3.out).1
  obtain ⟨W5, hW⟩ : ∃ W, W = w1.alloc (.cells #[.int .i64 2, .int .i32 0, .string ⟨#[]⟩, .slice none 0 0] 43) := ⟨_, rfl⟩
  rw [← hW]
  have hbx : Below w1.heap.size w1 W5 := by rw [hW]; exact (Below.refl _ _).alloc (Nat.le_refl _) _
  have HN5 : Hid (W5.heap[w1.heap.size]? = some (.cells #[.int .i64 2, .int .i32 0, .string ⟨#[]⟩, .slice none 0 0] 43 (0, 0))) := by rw [hW]; exact heap_alloc_new _ _
  have hlo5 : w.heap.size < w1.heap.size := (Array.getElem?_eq_some_iff.1 HY2.out).1
  clear hW
  have HY6 := Lib.hid ((hbx.block _ (Array.getElem?_eq_some_iff.1 HY2.out).1).trans HY2.out)
  have HY7 := Lib.hid ((hbx.block _ (Array.getElem?_eq_some_iff.1 HY3.out).1).trans HY3.out)
  have HK8 := Lib.hid (HK4.out.below hbx)
  clear HY2 HY3 HK4
  clear hbx
  refine (HNX.out _ HK8.out.1).mono ?_
  rintro e wn ⟨rfl, hbn⟩
  have HY9 := Lib.hid ((hbn.block _ (Array.getElem?_eq_some_iff.1 HY6.out).1).trans HY6.out)
  have HY10 := Lib.hid ((hbn.block _ (Array.getElem?_eq_some_iff.1 HY7.out).1).trans HY7.out)
  have HY11 := Lib.hid ((hbn.block _ (Array.getElem?_eq_some_iff.1 HN5.out).1).trans HN5.out)
  have HK12 := Lib.hid (HK8.out.below hbn)
  clear HY6 HY7 HN5 HK8
  clear hbn
  go_upto_region 7 with (fail)
  have hz_HY9 := (Array.getElem?_eq_some_iff.1 HY9.out).1
  have hz_HY10 := (Array.getElem?_eq_some_iff.1 HY10.out).1
  have hz_HY11 := (Array.getElem?_eq_some_iff.1 HY11.out).1
  obtain ⟨W13, hW⟩ : ∃ W, W = wn.alloc (.cells #[.int .i64 kd, .string ⟨tx.toArray⟩, .int .i32 nn, .int .i64 pl] 40) := ⟨_, rfl⟩
  rw [← hW]
  have hbx : Below wn.heap.size wn W13 := by rw [hW]; exact (Below.refl _ _).alloc (Nat.le_refl _) _
  have HN13 : Hid (W13.heap[wn.heap.size]? = some (.cells #[.int .i64 kd, .string ⟨tx.toArray⟩, .int .i32 nn, .int .i64 pl] 40 (0, 0))) := by rw [hW]; exact heap_alloc_new _ _
  have hlo13 : w.heap.size < wn.heap.size := (Array.getElem?_eq_some_iff.1 HY9.out).1
  clear hW
  have HY14 := Lib.hid ((hbx.block _ (Array.getElem?_eq_some_iff.1 HY9.out).1).trans HY9.out)
  have HY15 := Lib.hid ((hbx.block _ (Array.getElem?_eq_some_iff.1 HY10.out).1).trans HY10.out)
  have HY16 := Lib.hid ((hbx.block _ (Array.getElem?_eq_some_iff.1 HY11.out).1).trans HY11.out)
  have HK17 := Lib.hid (HK12.out.below hbx)
  clear HY9 HY10 HY11 HK12
  clear hbx
  have hz_HY14 := (Array.getElem?_eq_some_iff.1 HY14.out).1
  have hz_HY15 := (Array.getElem?_eq_some_iff.1 HY15.out).1
  have hz_HY16 := (Array.getElem?_eq_some_iff.1 HY16.out).1
  have hz_HN13 := (Array.getElem?_eq_some_iff.1 HN13.out).1
  obtain ⟨t0, t1, t2, t3, t4, t5, t6, t7⟩ := row4 HN13.out
  go_wp2_with fail
  clear HN13
  refine (HT0.out _ HK17.out.1).mono ?_
  rintro e w18 ⟨rfl, hk⟩
  have HY19 := Lib.hid (hk.row HY14.out (by omega))
  have HY20 := Lib.hid (hk.row HY15.out (by omega))
  have HY21 := Lib.hid (hk.row HY16.out (by omega))
  have HK22 := Lib.hid (HK17.out.trans hk)
  clear HY14 HY15 HY16 HK17
  clear hk
  go_wp2_with fail
  refine (HT1.out _ HK22.out.1).mono ?_
  rintro e w23 ⟨rfl, hk⟩
  have HY24 := Lib.hid (hk.row HY19.out (by omega))
  have HY25 := Lib.hid (hk.row HY20.out (by omega))
  have HY26 := Lib.hid (hk.row HY21.out (by omega))
  have HK27 := Lib.hid (HK22.out.trans hk)
  clear HY19 HY20 HY21 HK22
  clear hk
  go_wp2_with fail
  refine (HTF.out _ HK27.out.1).mono ?_
  rintro e w28 ⟨rfl, hk⟩
  have HY29 := Lib.hid (hk.row HY24.out (by omega))
  have HY30 := Lib.hid (hk.row HY25.out (by omega))
  have HY31 := Lib.hid (hk.row HY26.out (by omega))
  have HK32 := Lib.hid (HK27.out.trans hk)
  clear HY24 HY25 HY26 HK27
  clear hk
  clear HY31
  obtain ⟨q0, q1, q2, q3, q4, q5⟩ := row6 HK32.out.1
  obtain ⟨k0, k1, k2, k3, k4, k5, k6, k7⟩ := row4 HY29.out
  obtain ⟨f0, f1, f2⟩ := row3 HY30.out
  go_upto_region 15 with (fail)
  obtain ⟨V33, hV⟩ : ∃ W, W = ((w28.setCell ⟨bp, 0, none⟩ (.slice A ts.length c)).setCell ⟨bp, 1, none⟩ (.int .i64 (s.at_ : Int))).setCell ⟨bp, 2, none⟩ (.bool s.bad) := ⟨_, rfl⟩
  rw [← hV]
  have HY34 : Hid (V33.heap[w.heap.size]? = some (.cells zrow 43 (0, 0))) := by rw [hV]; exact set3_keep HY29.out (by omega) _ _ _
  have HY35 : Hid (V33.heap[(w.heap.size + 1)]? = some (.cells #[.slice A ts.length c, .int .i64 s.at_, .bool s.bad] 59 (0, 0))) := by rw [hV]; exact set3_keep HY30.out (by omega) _ _ _
  have HK36 : Hid (Took w bp 61 A c ts s V33) := by rw [hV]; exact HK32.out.back hle0
  clear hV HY29 HY30 HK32
  clear k0 k1 k2 k3 k4 k5 k6 k7
  obtain ⟨k0, k1, k2, k3, k4, k5, k6, k7⟩ := row4 HY34.out
  go_wp2_with fail
  exact ret_row_tmp 2 3 rfl rfl rfl rfl (setrow4 HY34.out _ _ _ _) Try.underlying43 infoExS ⟨rfl, took_set4 HK36.out.1 HK36.out.2 HR.out (Nat.le_refl _) _ _ _ _⟩
set_option maxRecDepth 100000 in
set_option maxHeartbeats 16000000 in
theorem first_j (bp : Nat) (A : Option Addr) (c : Nat) (ts : List Lx.Tok) (s : St) (h0 : sees ts s [45] = false) (h1 : isKind ts s 2 = false) (h2 : sees ts s wTrue = false) (h3 : sees ts s wFalse = false) (w : World) (h : RowAt w bp 61 A c ts s) :
    Calls Try.prog 68 #[.pointer (some ⟨bp, 0, none⟩)] w (FirstPost w bp A c ts s (none)) := by
  have HR := Lib.hid h
  have hbw := h.lt
  have hlen := h.len
  have hle0 := h.le
  obtain ⟨q0, q1, q2, q3, q4, q5⟩ := row6 h
  clear h

  have HTM := Lib.hid (fun W h => take_any bp A c ts s [45] W h)
  rw [h0, if_neg (by decide)] at HTM
  have HNX := Lib.hid (next_any bp A c ts s)
  generalize hcu : cur ts s = cu at *
  generalize has ts s = hh at *
  obtain ⟨kd, tx, nn, pl⟩ := cu
  unfold tokAgg at HNX
  dsimp only at *
  have hkd := isKind_kd (k := 2) hcu (by decide)
  rw [h1] at hkd
  have HT0 := Lib.hid (fun W h => take_any bp A c ts s wTrue W h)
  rw [h2, if_neg (by decide)] at HT0
  unfold wTrue at HT0
  have HT1 := Lib.hid (fun W h => take_any bp A c ts s wFalse W h)
  rw [h3, if_neg (by decide)] at HT1
  unfold wFalse at HT1
  clear h0 h1 h2 h3 hcu
  go_enter Try.func68, Try.ntmps68
  go_wp2_with fail
  obtain ⟨W0, hW0⟩ : ∃ W0, W0 = (w.alloc (.cells zrow 43)).alloc (.cells #[.slice A ts.length c, .int .i64 s.at_, .bool s.bad] 59) := ⟨_, rfl⟩
  unfold zrow at hW0
  rw [← hW0]
  have HZ0 : Hid (W0.heap[w.heap.size]? = some (.cells zrow 43 (0, 0))) := by rw [hW0]; exact row_alloc (heap_alloc_new _ _) _
  have HF0 : Hid (W0.heap[w.heap.size + 1]? = some (.cells #[.slice A ts.length c, .int .i64 s.at_, .bool s.bad] 59 (0, 0))) := by
    have h := heap_alloc_new (w.alloc (.cells zrow 43)) (.cells #[.slice A ts.length c, .int .i64 s.at_, .bool s.bad] 59)
    have e : (w.alloc (.cells zrow 43)).heap.size = w.heap.size + 1 := by simp
    rw [e] at h
    rw [hW0]; exact h
  have HK0 : Hid (Took w bp 61 A c ts s W0) := by rw [hW0]; exact ((took_refl HR.out).alloc _).alloc _
  clear hW0 q0 q1 q2 q3 q4 q5
  refine (HTM.out _ HK0.out.1).mono ?_
  rintro e w1 ⟨rfl, hk⟩
  have HY2 := Lib.hid (hk.row HZ0.out (by omega))
  have HY3 := Lib.hid (hk.row HF0.out (by omega))
  have HK4 := Lib.hid (HK0.out.trans hk)
  clear HZ0 HF0 HK0
  clear hk
  go_wp2_with fail
  have hz_HY2 := (Array.getElem?_eq_some_iff.1 HY2.out).1
  have hz_HY3 := (Array.getElem?_eq_some_iff.1 HY3.out).1
  obtain ⟨W5, hW⟩ : ∃ W, W = w1.alloc (.cells #[.int .i64 2, .int .i32 0, .string ⟨#[]⟩, .slice none 0 0] 43) := ⟨_, rfl⟩
  rw [← hW]
  have hbx : Below w1.heap.size w1 W5 := by rw [hW]; exact (Below.refl _ _).alloc (Nat.le_refl _) _
  have HN5 : Hid (W5.heap[w1.heap.size]? = some (.cells #[.int .i64 2, .int .i32 0, .string ⟨#[]⟩, .slice none 0 0] 43 (0, 0))) := by rw [hW]; exact heap_alloc_new _ _
  have hlo5 : w.heap.size < w1.heap.size := (Array.getElem?_eq_some_iff.1 HY2.out).1
  clear hW
  have HY6 := Lib.hid ((hbx.block _ (Array.getElem?_eq_some_iff.1 HY2.out).1).trans HY2.out)
  have HY7 := Lib.hid ((hbx.block _ (Array.getElem?_eq_some_iff.1 HY3.out).1).trans HY3.out)
  have HK8 := Lib.hid (HK4.out.below hbx)
  clear HY2 HY3 HK4
  clear hbx
  refine (HNX.out _ HK8.out.1).mono ?_
  rintro e wn ⟨rfl, hbn⟩
  have HY9 := Lib.hid ((hbn.block _ (Array.getElem?_eq_some_iff.1 HY6.out).1).trans HY6.out)
  have HY10 := Lib.hid ((hbn.block _ (Array.getElem?_eq_some_iff.1 HY7.out).1).trans HY7.out)
  have HY11 := Lib.hid ((hbn.block _ (Array.getElem?_eq_some_iff.1 HN5.out).1).trans HN5.out)
  have HK12 := Lib.hid (HK8.out.below hbn)
  clear HY6 HY7 HN5 HK8
  clear hbn
  go_upto_region 7 with (fail)
  have hz_HY9 := (Array.getElem?_eq_some_iff.1 HY9.out).1
  have hz_HY10 := (Array.getElem?_eq_some_iff.1 HY10.out).1
  have hz_HY11 := (Array.getElem?_eq_some_iff.1 HY11.out).1
  obtain ⟨W13, hW⟩ : ∃ W, W = wn.alloc (.cells #[.int .i64 kd, .string ⟨tx.toArray⟩, .int .i32 nn, .int .i64 pl] 40) := ⟨_, rfl⟩
  rw [← hW]
  have hbx : Below wn.heap.size wn W13 := by rw [hW]; exact (Below.refl _ _).alloc (Nat.le_refl _) _
  have HN13 : Hid (W13.heap[wn.heap.size]? = some (.cells #[.int .i64 kd, .string ⟨tx.toArray⟩, .int .i32 nn, .int .i64 pl] 40 (0, 0))) := by rw [hW]; exact heap_alloc_new _ _
  have hlo13 : w.heap.size < wn.heap.size := (Array.getElem?_eq_some_iff.1 HY9.out).1
  clear hW
  have HY14 := Lib.hid ((hbx.block _ (Array.getElem?_eq_some_iff.1 HY9.out).1).trans HY9.out)
  have HY15 := Lib.hid ((hbx.block _ (Array.getElem?_eq_some_iff.1 HY10.out).1).trans HY10.out)
  have HY16 := Lib.hid ((hbx.block _ (Array.getElem?_eq_some_iff.1 HY11.out).1).trans HY11.out)
  have HK17 := Lib.hid (HK12.out.below hbx)
  clear HY9 HY10 HY11 HK12
  clear hbx
  have hz_HY14 := (Array.getElem?_eq_some_iff.1 HY14.out).1
  have hz_HY15 := (Array.getElem?_eq_some_iff.1 HY15.out).1
  have hz_HY16 := (Array.getElem?_eq_some_iff.1 HY16.out).1
  have hz_HN13 := (Array.getElem?_eq_some_iff.1 HN13.out).1
  obtain ⟨t0, t1, t2, t3, t4, t5, t6, t7⟩ := row4 HN13.out
  go_wp2_with fail
  clear HN13
  refine (HT0.out _ HK17.out.1).mono ?_
  rintro e w18 ⟨rfl, hk⟩
  have HY19 := Lib.hid (hk.row HY14.out (by omega))
  have HY20 := Lib.hid (hk.row HY15.out (by omega))
  have HY21 := Lib.hid (hk.row HY16.out (by omega))
  have HK22 := Lib.hid (HK17.out.trans hk)
  clear HY14 HY15 HY16 HK17
  clear hk
  go_wp2_with fail
  refine (HT1.out _ HK22.out.1).mono ?_
  rintro e w23 ⟨rfl, hk⟩
  have HY24 := Lib.hid (hk.row HY19.out (by omega))
  have HY25 := Lib.hid (hk.row HY20.out (by omega))
  have HY26 := Lib.hid (hk.row HY21.out (by omega))
  have HK27 := Lib.hid (HK22.out.trans hk)
  clear HY19 HY20 HY21 HK22
  clear hk
  clear HY26
  obtain ⟨q0, q1, q2, q3, q4, q5⟩ := row6 HK27.out.1
  obtain ⟨k0, k1, k2, k3, k4, k5, k6, k7⟩ := row4 HY24.out
  obtain ⟨f0, f1, f2⟩ := row3 HY25.out
  go_upto_region 6 with (fail)
  obtain ⟨V28, hV⟩ : ∃ W, W = ((w23.setCell ⟨bp, 0, none⟩ (.slice A ts.length c)).setCell ⟨bp, 1, none⟩ (.int .i64 (s.at_ : Int))).setCell ⟨bp, 2, none⟩ (.bool s.bad) := ⟨_, rfl⟩
  rw [← hV]
  have HY29 : Hid (V28.heap[w.heap.size]? = some (.cells zrow 43 (0, 0))) := by rw [hV]; exact set3_keep HY24.out (by omega) _ _ _
  have HY30 : Hid (V28.heap[(w.heap.size + 1)]? = some (.cells #[.slice A ts.length c, .int .i64 s.at_, .bool s.bad] 59 (0, 0))) := by rw [hV]; exact set3_keep HY25.out (by omega) _ _ _
  have HK31 : Hid (Took w bp 61 A c ts s V28) := by rw [hV]; exact HK27.out.back hle0
  clear hV HY24 HY25 HK27
  clear k0 k1 k2 k3 k4 k5 k6 k7
  obtain ⟨k0, k1, k2, k3, k4, k5, k6, k7⟩ := row4 HY29.out
  go_wp2_with fail
  exact ret_row_tmp 2 3 rfl rfl rfl rfl (setrow4 HY29.out _ _ _ _) Try.underlying43 infoExS ⟨rfl, took_set4 HK31.out.1 HK31.out.2 HR.out (Nat.le_refl _) _ _ _ _⟩
theorem first_any (bp : Nat) (A : Option Addr) (c : Nat) (ts : List Lx.Tok) (s : St) (w : World) (h : RowAt w bp 61 A c ts s) :
    Calls Try.prog 68 #[.pointer (some ⟨bp, 0, none⟩)] w (FirstPost w bp A c ts s (firstP ts s)) := by
  unfold firstP
  rcases h0 : sees ts s [45] with _ | _
  · rw [if_neg (by decide)]
    rcases h1 : isKind ts s 2 with _ | _
    · rw [if_neg (by decide)]
      rcases h2 : sees ts s wTrue with _ | _
      · rw [if_neg (by decide)]
        rcases h3 : sees ts s wFalse with _ | _
        · rw [if_neg (by decide)]; exact first_j bp A c ts s h0 h1 h2 h3 w h
        · rw [if_pos rfl]; unfold litP
          rcases h4 : sees ts s.adv wFby with _ | _
          · rw [if_neg (by decide)]; exact first_i bp A c ts s h0 h1 h2 h3 h4 w h
          · rw [if_pos rfl, if_neg (by decide)]; exact first_h bp A c ts s h0 h1 h2 h3 h4 w h
      · rw [if_pos rfl]; unfold litP
        rcases h4 : sees ts s.adv wFby with _ | _
        · rw [if_neg (by decide)]; exact first_g bp A c ts s h0 h1 h2 h4 w h
        · rw [if_pos rfl, if_neg (by decide)]; exact first_f bp A c ts s h0 h1 h2 h4 w h
    · rw [if_pos rfl]; unfold litP
      rcases h4 : sees ts s.adv wFby with _ | _
      · rw [if_neg (by decide)]; exact first_e bp A c ts s h0 h1 h4 w h
      · rw [if_pos rfl, if_neg (by decide)]; exact first_d bp A c ts s h0 h1 h4 w h
  · rw [if_pos rfl]
    rcases h1 : isKind ts s.adv 2 with _ | _
    · rw [if_neg (by decide)]; exact first_c bp A c ts s h0 h1 w h
    · rw [if_pos rfl]; unfold litP
      rcases h4 : sees ts s.adv.adv wFby with _ | _
      · rw [if_neg (by decide)]; exact first_b bp A c ts s h0 h1 h4 w h
      · rw [if_pos rfl, if_pos rfl]; exact first_a bp A c ts s h0 h1 h4 w h
end Go.Proofs.Ytilkilffkjhhbaa
