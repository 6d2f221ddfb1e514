/-
  The function next of the package lex: the token with which a text begins.
-/
import Derived.Test.YtjgklpjmbogimaaLexE
namespace Go.Proofs.Ytjgklpjmbogimaa
open Go.RowKit
attribute [local go_sem] ex_take ex_drop ba_get

theorem below_new {w w1 : World} {cs : Array Value} {t : TypeId} (hb : Below (w.alloc (.cells cs t)).heap.size (w.alloc (.cells cs t)) w1) (j : Nat) :
    w1.cell? ⟨w.heap.size, j, none⟩ = cs[j]? ∧ w1.frozen? ⟨w.heap.size, j, none⟩ = false := by
  have h : w1.heap[w.heap.size]? = some (.cells cs t (0, 0)) := (hb.block w.heap.size (by simp)).trans (heap_alloc_new w _)
  exact ⟨cell_of_row w1 w.heap.size j cs t (0, 0) h, by simp [World.frozen?, h]⟩
theorem below4 {w w1 : World} {a b c d : Value} {t : TypeId} (hb : Below (w.alloc (.cells #[a, b, c, d] t)).heap.size (w.alloc (.cells #[a, b, c, d] t)) w1) :
    w1.cell? ⟨w.heap.size, 0, none⟩ = some a ∧ w1.cell? ⟨w.heap.size, 1, none⟩ = some b ∧ w1.cell? ⟨w.heap.size, 2, none⟩ = some c ∧ w1.cell? ⟨w.heap.size, 3, none⟩ = some d ∧
    w1.frozen? ⟨w.heap.size, 0, none⟩ = false ∧ w1.frozen? ⟨w.heap.size, 1, none⟩ = false ∧ w1.frozen? ⟨w.heap.size, 2, none⟩ = false ∧ w1.frozen? ⟨w.heap.size, 3, none⟩ = false ∧ w.heap.size < w1.heap.size ∧ Below w.heap.size w w1 := by
  refine ⟨(below_new hb 0).1, (below_new hb 1).1, (below_new hb 2).1, (below_new hb 3).1, (below_new hb 0).2, (below_new hb 1).2, (below_new hb 2).2, (below_new hb 3).2, ?_, ?_⟩
  · have := hb.size; simp at this; omega
  · exact ((Below.refl _ _).alloc (Nat.le_refl _) _).trans (hb.mono (by simp))
theorem set4 {W : World} {g : Nat} {a b c d : Value} (x0 x1 x2 x3 : Value) (k0 : W.cell? ⟨g, 0, none⟩ = some a) (k1 : W.cell? ⟨g, 1, none⟩ = some b) (k2 : W.cell? ⟨g, 2, none⟩ = some c) (k3 : W.cell? ⟨g, 3, none⟩ = some d) :
    ((((W.setCell ⟨g, 0, none⟩ x0).setCell ⟨g, 1, none⟩ x1).setCell ⟨g, 2, none⟩ x2).setCell ⟨g, 3, none⟩ x3).cell? ⟨g, 0, none⟩ = some x0 ∧
    ((((W.setCell ⟨g, 0, none⟩ x0).setCell ⟨g, 1, none⟩ x1).setCell ⟨g, 2, none⟩ x2).setCell ⟨g, 3, none⟩ x3).cell? ⟨g, 1, none⟩ = some x1 ∧
    ((((W.setCell ⟨g, 0, none⟩ x0).setCell ⟨g, 1, none⟩ x1).setCell ⟨g, 2, none⟩ x2).setCell ⟨g, 3, none⟩ x3).cell? ⟨g, 2, none⟩ = some x2 ∧
    ((((W.setCell ⟨g, 0, none⟩ x0).setCell ⟨g, 1, none⟩ x1).setCell ⟨g, 2, none⟩ x2).setCell ⟨g, 3, none⟩ x3).cell? ⟨g, 3, none⟩ = some x3 := by
  refine ⟨?_, ?_, ?_, ?_⟩ <;> simp [go_sem, k0, k1, k2, k3]
theorem ret_tok {fn : Func} {R : Ending → World → Prop} {a : Act} {W : World} {g : Nat} {v0 v1 v2 v3 x : Value} (hr : fn.results = #[.cell 2 29, .tmp 3])
    (h2 : a.tmps.getD 2 undef = .pointer (some ⟨g, 0, none⟩)) (h3 : a.tmps.getD 3 undef = x) (hd : a.defers = [])
    (c0 : W.cell? ⟨g, 0, none⟩ = some v0) (c1 : W.cell? ⟨g, 1, none⟩ = some v1) (c2 : W.cell? ⟨g, 2, none⟩ = some v2) (c3 : W.cell? ⟨g, 3, none⟩ = some v3)
    (hR : R (.returned (.tuple #[.agg #[v0, v1, v2, v3], x])) W) : bodyPost Try.prog fn R .ret a W := by
  refine bodyPost_ret ?_ hd hR
  have h2' : a.tmps[2]?.getD undef = .pointer (some ⟨g, 0, none⟩) := by simpa using h2
  have h3' : a.tmps[3]?.getD undef = x := by simpa using h3
  simp [results, hr, h2', h3', go_sem, c0, c1, c2, c3]
def tokAgg (t : Lx.Tok) : Value := .agg #[.int .i64 t.kind, .string ⟨t.text.toArray⟩, .int .i32 t.n, .int .i64 t.at_]
set_option maxHeartbeats 2000000 in
theorem next_word (l : List UInt8) (h0 : 0 < l.length) (h1 : Lx.bp Lx.letter (l[0]'h0) = true) (hw : Lx.isWord (Lx.hd Lx.inner l) = true) (hl : l.length ≤ maxLen) (w : World) :
    Calls Try.prog 26 #[.string ⟨l.toArray⟩] w fun e w' => e = .returned (.tuple #[tokAgg ⟨3, Lx.hd Lx.inner l, 0, 0⟩, .int .i64 0]) ∧ Below w.heap.size w w' := by
  unfold tokAgg
  have hL := Lib.hid hl
  unfold maxLen at hl
  have H1 : Hid (Lx.letter ((l[0]'h0).toNat : Int) = true) := h1
  clear h1
  have hcb : ((l[0]'h0).toNat : Int) ≤ 255 := by have := (l[0]'h0).toNat_lt; omega
  have HW := Lib.hid hw
  clear hw
  go_enter Try.func26, Try.ntmps26
  go_wp2_with fail
  refine (lexletter_any _ _).mono ?_
  rintro e w' ⟨rfl, rfl⟩
  rw [H1.out]
  go_wp2_with fail
  refine (head_inner l hL.out _).mono ?_
  rintro e w1 ⟨rfl, hb1⟩
  obtain ⟨k0, k1, k2, k3, f0, f1, f2, f3, hz, hb⟩ := below4 hb1
  have HB := Lib.hid hb
  clear hb1 hb
  go_wp2_with fail
  refine (lexword _ _).mono ?_
  rintro e w' ⟨rfl, rfl⟩
  rw [HW.out]
  go_wp2_with fail
  obtain ⟨e0, e1, e2, e3⟩ := set4 (.int .i64 3) (.string ⟨(Lx.hd Lx.inner l).toArray⟩) (.int .i32 0) (.int .i64 0) k0 k1 k2 k3
  refine ret_tok rfl rfl rfl rfl ((World.cell?_alloc_lt _ _ _ ?_).trans e0) ((World.cell?_alloc_lt _ _ _ ?_).trans e1) ((World.cell?_alloc_lt _ _ _ ?_).trans e2) ((World.cell?_alloc_lt _ _ _ ?_).trans e3) ⟨rfl, ?_⟩
  all_goals first | (simp [World.setCell]; omega) | skip
  exact (((((HB.out.setCell (Nat.le_refl _) _).setCell (Nat.le_refl _) _).setCell (Nat.le_refl _) _).setCell (Nat.le_refl _) _).alloc (by simp; omega) _)
set_option maxHeartbeats 2000000 in
theorem next_big (l : List UInt8) (h0 : 0 < l.length) (h1 : Lx.bp Lx.letter (l[0]'h0) = true) (hw : Lx.isWord (Lx.hd Lx.inner l) = false) (hg : 16 < (Lx.hd Lx.inner l).length) (hl : l.length ≤ maxLen) (w : World) :
    Calls Try.prog 26 #[.string ⟨l.toArray⟩] w fun e w' => e = .returned (.tuple #[tokAgg ⟨1, Lx.hd Lx.inner l, 0, 0⟩, .int .i64 3]) ∧ Below w.heap.size w w' := by
  unfold tokAgg
  have hL := Lib.hid hl
  unfold maxLen at hl
  have H1 : Hid (Lx.letter ((l[0]'h0).toNat : Int) = true) := h1
  clear h1
  have hcb : ((l[0]'h0).toNat : Int) ≤ 255 := by have := (l[0]'h0).toNat_lt; omega
  have HW := Lib.hid hw
  clear hw
  have hhl : (Lx.hd Lx.inner l).length ≤ l.length := hd_le _ _
  go_enter Try.func26, Try.ntmps26
  go_wp2_with fail
  refine (lexletter_any _ _).mono ?_
  rintro e w' ⟨rfl, rfl⟩
  rw [H1.out]
  go_wp2_with fail
  refine (head_inner l hL.out _).mono ?_
  rintro e w1 ⟨rfl, hb1⟩
  obtain ⟨k0, k1, k2, k3, f0, f1, f2, f3, hz, hb⟩ := below4 hb1
  have HB := Lib.hid hb
  clear hb1 hb
  go_wp2_with fail
  refine (lexword _ _).mono ?_
  rintro e w' ⟨rfl, rfl⟩
  rw [HW.out]
  go_wp2_with fail
  obtain ⟨e0, e1, e2, e3⟩ := set4 (.int .i64 1) (.string ⟨(Lx.hd Lx.inner l).toArray⟩) (.int .i32 0) (.int .i64 0) k0 k1 k2 k3
  refine ret_tok rfl rfl rfl rfl ((World.cell?_alloc_lt _ _ _ ?_).trans e0) ((World.cell?_alloc_lt _ _ _ ?_).trans e1) ((World.cell?_alloc_lt _ _ _ ?_).trans e2) ((World.cell?_alloc_lt _ _ _ ?_).trans e3) ⟨rfl, ?_⟩
  all_goals first | (simp [World.setCell]; omega) | skip
  exact (((((HB.out.setCell (Nat.le_refl _) _).setCell (Nat.le_refl _) _).setCell (Nat.le_refl _) _).setCell (Nat.le_refl _) _).alloc (by simp; omega) _)
set_option maxHeartbeats 2000000 in
theorem next_name (l : List UInt8) (h0 : 0 < l.length) (h1 : Lx.bp Lx.letter (l[0]'h0) = true) (hw : Lx.isWord (Lx.hd Lx.inner l) = false) (hg : ¬ 16 < (Lx.hd Lx.inner l).length) (hl : l.length ≤ maxLen) (w : World) :
    Calls Try.prog 26 #[.string ⟨l.toArray⟩] w fun e w' => e = .returned (.tuple #[tokAgg ⟨1, Lx.hd Lx.inner l, 0, 0⟩, .int .i64 0]) ∧ Below w.heap.size w w' := by
  unfold tokAgg
  have hL := Lib.hid hl
  unfold maxLen at hl
  have H1 : Hid (Lx.letter ((l[0]'h0).toNat : Int) = true) := h1
  clear h1
  have hcb : ((l[0]'h0).toNat : Int) ≤ 255 := by have := (l[0]'h0).toNat_lt; omega
  have HW := Lib.hid hw
  clear hw
  have hhl : (Lx.hd Lx.inner l).length ≤ l.length := hd_le _ _
  go_enter Try.func26, Try.ntmps26
  go_wp2_with fail
  refine (lexletter_any _ _).mono ?_
  rintro e w' ⟨rfl, rfl⟩
  rw [H1.out]
  go_wp2_with fail
  refine (head_inner l hL.out _).mono ?_
  rintro e w1 ⟨rfl, hb1⟩
  obtain ⟨k0, k1, k2, k3, f0, f1, f2, f3, hz, hb⟩ := below4 hb1
  have HB := Lib.hid hb
  clear hb1 hb
  go_wp2_with fail
  refine (lexword _ _).mono ?_
  rintro e w' ⟨rfl, rfl⟩
  rw [HW.out]
  go_wp2_with fail
  obtain ⟨e0, e1, e2, e3⟩ := set4 (.int .i64 1) (.string ⟨(Lx.hd Lx.inner l).toArray⟩) (.int .i32 0) (.int .i64 0) k0 k1 k2 k3
  refine ret_tok rfl rfl rfl rfl ((World.cell?_alloc_lt _ _ _ ?_).trans e0) ((World.cell?_alloc_lt _ _ _ ?_).trans e1) ((World.cell?_alloc_lt _ _ _ ?_).trans e2) ((World.cell?_alloc_lt _ _ _ ?_).trans e3) ⟨rfl, ?_⟩
  all_goals first | (simp [World.setCell]; omega) | skip
  exact (((((HB.out.setCell (Nat.le_refl _) _).setCell (Nat.le_refl _) _).setCell (Nat.le_refl _) _).setCell (Nat.le_refl _) _).alloc (by simp; omega) _)
set_option maxHeartbeats 2000000 in
theorem next_num (l : List UInt8) (h0 : 0 < l.length) (h1 : Lx.bp Lx.letter (l[0]'h0) = false) (h2 : Lx.bp Lx.digit (l[0]'h0) = true) (hr : Lx.readOk (Lx.hd Lx.digit l) = true) (hl : l.length ≤ maxLen) (w : World) :
    Calls Try.prog 26 #[.string ⟨l.toArray⟩] w fun e w' => e = .returned (.tuple #[tokAgg ⟨2, Lx.hd Lx.digit l, Lx.numVal (Lx.hd Lx.digit l), 0⟩, .int .i64 0]) ∧ Below w.heap.size w w' := by
  unfold tokAgg
  have hL := Lib.hid hl
  unfold maxLen at hl
  have H1 : Hid (Lx.letter ((l[0]'h0).toNat : Int) = false) := h1
  clear h1
  have hcb : ((l[0]'h0).toNat : Int) ≤ 255 := by have := (l[0]'h0).toNat_lt; omega
  have H2 : Hid (Lx.digit ((l[0]'h0).toNat : Int) = true) := h2
  clear h2
  have hne : Lx.hd Lx.digit l ≠ [] := List.length_pos_iff.1 (Lx.hd_pos (List.length_pos_iff.1 h0) (by rw [headD_at h0]; exact H2.out))
  have had : AllDigits (Lx.hd Lx.digit l) := Lx.mem_tw _ l
  have hdl : (Lx.hd Lx.digit l).length ≤ maxLen := by have := hd_le Lx.digit l; have := hL.out; omega
  have HR := Lib.hid hr
  have HN := Lib.hid (And.intro hne (And.intro had hdl))
  clear hr hne had hdl
  go_enter Try.func26, Try.ntmps26
  go_wp2_with fail
  refine (lexletter_any _ _).mono ?_
  rintro e w' ⟨rfl, rfl⟩
  rw [H1.out]
  go_wp2_with fail
  refine (lexdigit_any _ _).mono ?_
  rintro e w' ⟨rfl, rfl⟩
  rw [H2.out]
  go_wp2_with fail
  refine (head_digit l hL.out _).mono ?_
  rintro e w1 ⟨rfl, hb1⟩
  obtain ⟨k0, k1, k2, k3, f0, f1, f2, f3, hz, hb⟩ := below4 hb1
  have HB := Lib.hid hb
  clear hb1 hb
  go_wp2_with fail
  refine (wrapread _ HN.out.1 HN.out.2.1 HN.out.2.2 _).mono ?_
  rintro e w' ⟨rfl, rfl⟩
  rw [HR.out]
  go_wp2_with fail
  obtain ⟨e0, e1, e2, e3⟩ := set4 (.int .i64 2) (.string ⟨(Lx.hd Lx.digit l).toArray⟩) (.int .i32 (Lx.numVal (Lx.hd Lx.digit l))) (.int .i64 0) k0 k1 k2 k3
  refine ret_tok rfl rfl rfl rfl ((World.cell?_alloc_lt _ _ _ ?_).trans e0) ((World.cell?_alloc_lt _ _ _ ?_).trans e1) ((World.cell?_alloc_lt _ _ _ ?_).trans e2) ((World.cell?_alloc_lt _ _ _ ?_).trans e3) ⟨rfl, ?_⟩
  all_goals first | (simp [World.setCell]; omega) | skip
  exact (((((HB.out.setCell (Nat.le_refl _) _).setCell (Nat.le_refl _) _).setCell (Nat.le_refl _) _).setCell (Nat.le_refl _) _).alloc (by simp; omega) _)
set_option maxHeartbeats 2000000 in
theorem next_bad (l : List UInt8) (h0 : 0 < l.length) (h1 : Lx.bp Lx.letter (l[0]'h0) = false) (h2 : Lx.bp Lx.digit (l[0]'h0) = true) (hr : Lx.readOk (Lx.hd Lx.digit l) = false) (hl : l.length ≤ maxLen) (w : World) :
    Calls Try.prog 26 #[.string ⟨l.toArray⟩] w fun e w' => e = .returned (.tuple #[tokAgg ⟨2, Lx.hd Lx.digit l, 0, 0⟩, .int .i64 16]) ∧ Below w.heap.size w w' := by
  unfold tokAgg
  have hL := Lib.hid hl
  unfold maxLen at hl
  have H1 : Hid (Lx.letter ((l[0]'h0).toNat : Int) = false) := h1
  clear h1
  have hcb : ((l[0]'h0).toNat : Int) ≤ 255 := by have := (l[0]'h0).toNat_lt; omega
  have H2 : Hid (Lx.digit ((l[0]'h0).toNat : Int) = true) := h2
  clear h2
  have hne : Lx.hd Lx.digit l ≠ [] := List.length_pos_iff.1 (Lx.hd_pos (List.length_pos_iff.1 h0) (by rw [headD_at h0]; exact H2.out))
  have had : AllDigits (Lx.hd Lx.digit l) := Lx.mem_tw _ l
  have hdl : (Lx.hd Lx.digit l).length ≤ maxLen := by have := hd_le Lx.digit l; have := hL.out; omega
  have HR := Lib.hid hr
  have HN := Lib.hid (And.intro hne (And.intro had hdl))
  clear hr hne had hdl
  go_enter Try.func26, Try.ntmps26
  go_wp2_with fail
  refine (lexletter_any _ _).mono ?_
  rintro e w' ⟨rfl, rfl⟩
  rw [H1.out]
  go_wp2_with fail
  refine (lexdigit_any _ _).mono ?_
  rintro e w' ⟨rfl, rfl⟩
  rw [H2.out]
  go_wp2_with fail
  refine (head_digit l hL.out _).mono ?_
  rintro e w1 ⟨rfl, hb1⟩
  obtain ⟨k0, k1, k2, k3, f0, f1, f2, f3, hz, hb⟩ := below4 hb1
  have HB := Lib.hid hb
  clear hb1 hb
  go_wp2_with fail
  refine (wrapread _ HN.out.1 HN.out.2.1 HN.out.2.2 _).mono ?_
  rintro e w' ⟨rfl, rfl⟩
  rw [HR.out]
  go_wp2_with fail
  obtain ⟨e0, e1, e2, e3⟩ := set4 (.int .i64 2) (.string ⟨(Lx.hd Lx.digit l).toArray⟩) (.int .i32 0) (.int .i64 0) k0 k1 k2 k3
  refine ret_tok rfl rfl rfl rfl ((World.cell?_alloc_lt _ _ _ ?_).trans e0) ((World.cell?_alloc_lt _ _ _ ?_).trans e1) ((World.cell?_alloc_lt _ _ _ ?_).trans e2) ((World.cell?_alloc_lt _ _ _ ?_).trans e3) ⟨rfl, ?_⟩
  all_goals first | (simp [World.setCell]; omega) | skip
  exact (((((HB.out.setCell (Nat.le_refl _) _).setCell (Nat.le_refl _) _).setCell (Nat.le_refl _) _).setCell (Nat.le_refl _) _).alloc (by simp; omega) _)
end Go.Proofs.Ytjgklpjmbogimaa
