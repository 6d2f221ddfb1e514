/-
  Equations.
-/
import Derived.Test.YtilkilffkjhhbaaTrQ4
namespace Go.Proofs.Ytilkilffkjhhbaa
set_option maxRecDepth 20000
set_option linter.unusedVariables false
open Go.RowKit Tr Mem

/-- an equation's own cells, of which the parts lie from AF, AE on -/
def eqCells (q : Eqn) (AF : Option Addr) (cF : Nat) (AE : Option Addr) (cE : Nat) : List Value :=
  [.string ⟨q.name.toArray⟩, .int .i64 q.delay, .int .i64 q.first.kind, .int .i32 q.first.n, .string ⟨q.first.name.toArray⟩, .slice AF q.first.sub.length cF, .int .i64 q.e.kind, .int .i32 q.e.n, .string ⟨q.e.name.toArray⟩, .slice AE q.e.sub.length cE]
def zeq : Array Value := #[.string ⟨#[]⟩, .int .i64 0, .int .i64 0, .int .i32 0, .string ⟨#[]⟩, .slice none 0 0, .int .i64 0, .int .i32 0, .string ⟨#[]⟩, .slice none 0 0]
theorem infoEq : (Try.prog.info? 56).map (·.size) = some 10 := by kernel_rfl
def EqPost (w : World) (bp : Nat) (A : Option Addr) (c : Nat) (ts : List Lx.Tok) (r : Eqn × St) (e : Ending) (w' : World) : Prop :=
  ∃ AF cF AE cE, e = .returned (.agg (eqCells r.1 AF cF AE cE).toArray) ∧ At w' (fun b => w.heap.size ≤ b) r.1.first AF ∧ At w' (fun b => w.heap.size ≤ b) r.1.e AE ∧ Took w bp 61 A c ts r.2 w'
theorem set1_row10 {W : World} {g : Nat} {a b c d e f h i j k : Value} {t : TypeId} (hg : W.heap[g]? = some (.cells #[a, b, c, d, e, f, h, i, j, k] t (0, 0))) (x : Value) : (W.setCell ⟨g, 1, none⟩ x).heap[g]? = some (.cells #[a, x, c, d, e, f, h, i, j, k] t (0, 0)) := by
  rw [heap_setCell_same _ g 1 _ _ _ hg]; rfl
theorem setF_row10 {W : World} {g : Nat} {a b c d e f h i j k : Value} {t : TypeId} (hg : W.heap[g]? = some (.cells #[a, b, c, d, e, f, h, i, j, k] t (0, 0))) (x0 x1 x2 x3 : Value) :
    ((((W.setCell ⟨g, 2, none⟩ x0).setCell ⟨g, 3, none⟩ x1).setCell ⟨g, 4, none⟩ x2).setCell ⟨g, 5, none⟩ x3).heap[g]? = some (.cells #[a, b, x0, x1, x2, x3, h, i, j, k] t (0, 0)) := by
  rw [heap_setCell_same _ g 5 _ _ _ (heap_setCell_same _ g 4 _ _ _ (heap_setCell_same _ g 3 _ _ _ (heap_setCell_same _ g 2 _ _ _ hg)))]; rfl
theorem setE_row10 {W : World} {g : Nat} {a b c d e f h i j k : Value} {t : TypeId} (hg : W.heap[g]? = some (.cells #[a, b, c, d, e, f, h, i, j, k] t (0, 0))) (x0 x1 x2 x3 : Value) :
    ((((W.setCell ⟨g, 6, none⟩ x0).setCell ⟨g, 7, none⟩ x1).setCell ⟨g, 8, none⟩ x2).setCell ⟨g, 9, none⟩ x3).heap[g]? = some (.cells #[a, b, c, d, e, f, x0, x1, x2, x3] t (0, 0)) := by
  rw [heap_setCell_same _ g 9 _ _ _ (heap_setCell_same _ g 8 _ _ _ (heap_setCell_same _ g 7 _ _ _ (heap_setCell_same _ g 6 _ _ _ hg)))]; rfl
theorem set4_keep {W : World} {g g' o1 o2 o3 o4 : Nat} {O : Obj} (h : W.heap[g']? = some O) (hne : g' ≠ g) (x0 x1 x2 x3 : Value) : ((((W.setCell ⟨g, o1, none⟩ x0).setCell ⟨g, o2, none⟩ x1).setCell ⟨g, o3, none⟩ x2).setCell ⟨g, o4, none⟩ x3).heap[g']? = some O :=
  set1_keep (set1_keep (set1_keep (set1_keep h hne _) hne _) hne _) hne _
theorem grown_set4' {W : World} {g o1 o2 o3 o4 : Nat} (x0 x1 x2 x3 : Value) : W.grownBy ((((W.setCell ⟨g, o1, none⟩ x0).setCell ⟨g, o2, none⟩ x1).setCell ⟨g, o3, none⟩ x2).setCell ⟨g, o4, none⟩ x3) (some g) :=
  World.grownBy.trans (World.grownBy.trans (World.grownBy.trans (grown_setCell _ _ _ _) (grown_setCell _ _ _ _)) (grown_setCell _ _ _ _)) (grown_setCell _ _ _ _)
theorem row10 {W : World} {g : Nat} {a b c d e f h i j k : Value} {t : TypeId} (hg : W.heap[g]? = some (.cells #[a, b, c, d, e, f, h, i, j, k] t (0, 0))) :
    (W.cell? ⟨g, 1, none⟩ = some b ∧ W.cell? ⟨g, 2, none⟩ = some c ∧ W.cell? ⟨g, 3, none⟩ = some d ∧ W.cell? ⟨g, 4, none⟩ = some e ∧ W.cell? ⟨g, 5, none⟩ = some f ∧ W.cell? ⟨g, 6, none⟩ = some h ∧ W.cell? ⟨g, 7, none⟩ = some i ∧ W.cell? ⟨g, 8, none⟩ = some j ∧ W.cell? ⟨g, 9, none⟩ = some k) ∧
    W.frozen? ⟨g, 1, none⟩ = false ∧ W.frozen? ⟨g, 2, none⟩ = false ∧ W.frozen? ⟨g, 3, none⟩ = false ∧ W.frozen? ⟨g, 4, none⟩ = false ∧ W.frozen? ⟨g, 5, none⟩ = false ∧ W.frozen? ⟨g, 6, none⟩ = false ∧ W.frozen? ⟨g, 7, none⟩ = false ∧ W.frozen? ⟨g, 8, none⟩ = false ∧ W.frozen? ⟨g, 9, none⟩ = false :=
  ⟨⟨cell_of_row W g 1 _ _ _ hg, cell_of_row W g 2 _ _ _ hg, cell_of_row W g 3 _ _ _ hg, cell_of_row W g 4 _ _ _ hg, cell_of_row W g 5 _ _ _ hg, cell_of_row W g 6 _ _ _ hg, cell_of_row W g 7 _ _ _ hg, cell_of_row W g 8 _ _ _ hg, cell_of_row W g 9 _ _ _ hg⟩,
   frozen_of_row W g 1 _ _ hg, frozen_of_row W g 2 _ _ hg, frozen_of_row W g 3 _ _ hg, frozen_of_row W g 4 _ _ hg, frozen_of_row W g 5 _ _ hg, frozen_of_row W g 6 _ _ hg, frozen_of_row W g 7 _ _ hg, frozen_of_row W g 8 _ _ hg, frozen_of_row W g 9 _ _ hg⟩
theorem eqCells_one (q : Eqn) (AF : Option Addr) (cF : Nat) (AE : Option Addr) (cE : Nat) : ∀ u ∈ eqCells q AF cF AE cE, u.oneCell' = true := by
  intro u hu; simp [eqCells] at hu; rcases hu with rfl | rfl | rfl | rfl | rfl | rfl | rfl | rfl | rfl | rfl <;> rfl
theorem Took.setRow {w W : World} {bp : Nat} {ty : TypeId} {A : Option Addr} {c : Nat} {ts : List Lx.Tok} {s s0 : St} (h : Took w bp ty A c ts s W) (h0 : RowAt w bp ty A c ts s0) {g : Nat} (hlo : w.heap.size ≤ g) (cs : Array Value) : Took w bp ty A c ts s (W.setRow g cs) :=
  h.ours (grown_setRow _ _ _) h0 hlo

set_option maxRecDepth 100000 in
set_option maxHeartbeats 16000000 in
theorem eq_pre (bp : Nat) (A : Option Addr) (c : Nat) (ts : List Lx.Tok) (s : St) (h1 : sees ts (Tr.need ts (Tr.name ts s).2 [61]) wPre = true) (w : World) (h : RowAt w bp 61 A c ts s) :
    Calls Try.prog 34 #[.pointer (some ⟨bp, 0, none⟩)] w (EqPost w bp A c ts (⟨(Tr.name ts s).1, 2, Ex.zero, (P ts .expr (Tr.need ts (Tr.name ts s).2 [61]).adv).1⟩, Tr.need ts (P ts .expr (Tr.need ts (Tr.name ts s).2 [61]).adv).2 [59])) := by
  have HR := Lib.hid h
  have hbw := h.lt
  have HW0 : Hid (∀ V, Below w.heap.size w (w.alloc V)) := fun V => (Below.refl _ _).alloc (Nat.le_refl _) V
  clear h
  have HC := Lib.hid (fun W h => name_any bp A c ts s W h)
  generalize Tr.name ts s = nm at *
  obtain ⟨nm, s1⟩ := nm
  dsimp only at *
  have HN := Lib.hid (fun W h => need_any bp A c ts s1 [61] W h)
  generalize Tr.need ts s1 [61] = s2 at *

  have HT := Lib.hid (fun W h => take_any bp A c ts s2 wPre W h)
  rw [h1, if_pos rfl] at HT
  unfold wPre at HT
  clear h1
  have HE := Lib.hid (fun W h => pexpr bp A c ts s2.adv W h)
  generalize P ts .expr s2.adv = q at *
  obtain ⟨x, s3⟩ := q
  dsimp only at *
  have HM := Lib.hid (fun W h => need_any bp A c ts s3 [59] W h)
  generalize Tr.need ts s3 [59] = s4 at *
  go_enter Try.func34, Try.ntmps34
  go_wp2_with fail
  obtain ⟨W0, hW0⟩ : ∃ W0, W0 = w.alloc (.cells zeq 56) := ⟨_, rfl⟩
  unfold zeq at hW0
  rw [← hW0]
  have HB0 : Hid (Below w.heap.size w W0) := by rw [hW0]; exact HW0.out _
  have HZ0 : Hid (W0.heap[w.heap.size]? = some (.cells zeq 56 (0, 0))) := by rw [hW0]; exact heap_alloc_new _ _
  have HK0 : Hid (Took w bp 61 A c ts s W0) := (took_refl HR.out).below HB0.out
  clear hW0
  refine (HC.out _ HK0.out.1).mono ?_
  rintro e w1 ⟨rfl, hk⟩
  have HY2 := Lib.hid (hk.row HZ0.out (by omega))
  have HK3 := Lib.hid (HK0.out.trans hk)
  clear HZ0 HK0
  clear hk
  go_wp2_with fail
  have hz_HY2 := (Array.getElem?_eq_some_iff.1 HY2.out).1
  obtain ⟨W4, hW⟩ : ∃ W, W = w1.alloc (.cells #[.string ⟨nm.toArray⟩, .int .i64 0, .int .i64 0, .int .i32 0, .string ⟨#[]⟩, .slice none 0 0, .int .i64 0, .int .i32 0, .string ⟨#[]⟩, .slice none 0 0] 56) := ⟨_, rfl⟩
  rw [← hW]
  have hbx : Below w1.heap.size w1 W4 := by rw [hW]; exact (Below.refl _ _).alloc (Nat.le_refl _) _
  have HN4 : Hid (W4.heap[w1.heap.size]? = some (.cells #[.string ⟨nm.toArray⟩, .int .i64 0, .int .i64 0, .int .i32 0, .string ⟨#[]⟩, .slice none 0 0, .int .i64 0, .int .i32 0, .string ⟨#[]⟩, .slice none 0 0] 56 (0, 0))) := by rw [hW]; exact heap_alloc_new _ _
  have hlo4 : w.heap.size < w1.heap.size := (Array.getElem?_eq_some_iff.1 HY2.out).1
  clear hW
  have HY5 := Lib.hid ((hbx.block _ (Array.getElem?_eq_some_iff.1 HY2.out).1).trans HY2.out)
  have HK6 := Lib.hid (HK3.out.below hbx)
  clear HY2 HK3
  clear hbx
  refine (HN.out _ HK6.out.1).mono ?_
  rintro e w7 ⟨rfl, hk⟩
  have HY8 := Lib.hid (hk.row HY5.out (by omega))
  have HY9 := Lib.hid (hk.row HN4.out (by omega))
  have HK10 := Lib.hid (HK6.out.trans hk)
  clear HY5 HN4 HK6
  clear hk
  go_wp2_with fail
  refine (HT.out _ HK10.out.1).mono ?_
  rintro e w11 ⟨rfl, hk⟩
  have HY12 := Lib.hid (hk.row HY8.out (by omega))
  have HY13 := Lib.hid (hk.row HY9.out (by omega))
  have HK14 := Lib.hid (HK10.out.trans hk)
  clear HY8 HY9 HK10
  clear hk
  have hz_HY12 := (Array.getElem?_eq_some_iff.1 HY12.out).1
  have hz_HY13 := (Array.getElem?_eq_some_iff.1 HY13.out).1
  obtain ⟨⟨c1, c2, c3, c4, c5, c6, c7, c8, c9⟩, g1, g2, g3, g4, g5, g6, g7, g8, g9⟩ := row10 HY13.out
  go_upto_region 8 with (fail)
  obtain ⟨V15, hV⟩ : ∃ W, W = w11.setCell ⟨w1.heap.size, 1, none⟩ (.int .i64 2) := ⟨_, rfl⟩
  rw [← hV]
  have HY16 : Hid (V15.heap[w.heap.size]? = some (.cells zeq 56 (0, 0))) := by rw [hV]; exact set1_keep HY12.out (by omega) _
  have HY17 : Hid (V15.heap[w1.heap.size]? = some (.cells #[.string ⟨nm.toArray⟩, .int .i64 2, .int .i64 0, .int .i32 0, .string ⟨#[]⟩, .slice none 0 0, .int .i64 0, .int .i32 0, .string ⟨#[]⟩, .slice none 0 0] 56 (0, 0))) := by rw [hV]; exact set1_row10 HY13.out _
  have HK18 : Hid (Took w bp 61 A c ts s2.adv V15) := by rw [hV]; exact HK14.out.ours (grown_setCell _ _ _ _) HR.out (by omega)
  clear hV HY12 HY13 HK14
  clear c1 c2 c3 c4 c5 c6 c7 c8 c9 g1 g2 g3 g4 g5 g6 g7 g8 g9
  go_wp2_with fail
  have hzz19 := (Array.getElem?_eq_some_iff.1 HY16.out).1
  have hzHY17_19 := (Array.getElem?_eq_some_iff.1 HY17.out).1
  refine (HE.out _ HK18.out.1).mono ?_
  rintro e w19 ⟨Ax, cx, rfl, hat, hk⟩
  have HY20 := Lib.hid (hk.row HY16.out (by omega))
  have HY21 := Lib.hid (hk.row HY17.out (by omega))
  have HK22 := Lib.hid (HK18.out.trans hk)
  clear HY16 HY17 HK18
  have HX23 := Lib.hid (hat.base (B' := fun b => w1.heap.size < b) (fun b hb hl => Nat.lt_of_lt_of_le hzHY17_19 hb))
  clear hat hk
  unfold exAgg
  dsimp only
  obtain ⟨⟨c1, c2, c3, c4, c5, c6, c7, c8, c9⟩, g1, g2, g3, g4, g5, g6, g7, g8, g9⟩ := row10 HY21.out
  go_upto_region 9 with (fail)
  obtain ⟨V24, hV⟩ : ∃ W, W = (((w19.setCell ⟨w1.heap.size, 6, none⟩ (.int .i64 x.kind)).setCell ⟨w1.heap.size, 7, none⟩ (.int .i32 x.n)).setCell ⟨w1.heap.size, 8, none⟩ (.string ⟨x.name.toArray⟩)).setCell ⟨w1.heap.size, 9, none⟩ (.slice Ax x.sub.length cx) := ⟨_, rfl⟩
  rw [← hV]
  have HY25 : Hid (V24.heap[w.heap.size]? = some (.cells zeq 56 (0, 0))) := by rw [hV]; exact set4_keep HY20.out (by omega) _ _ _ _
  have HY26 : Hid (V24.heap[w1.heap.size]? = some (.cells #[.string ⟨nm.toArray⟩, .int .i64 2, .int .i64 0, .int .i32 0, .string ⟨#[]⟩, .slice none 0 0, .int .i64 x.kind, .int .i32 x.n, .string ⟨x.name.toArray⟩, .slice Ax x.sub.length cx] 56 (0, 0))) := by rw [hV]; exact setE_row10 HY21.out _ _ _ _
  have HX27 : Hid (At V24 (fun b => w1.heap.size < b) x Ax) := by rw [hV]; exact HX23.out.grown (grown_set4' _ _ _ _) (Nat.lt_irrefl _)
  have HK28 : Hid (Took w bp 61 A c ts s3 V24) := by rw [hV]; exact HK22.out.ours (grown_set4' _ _ _ _) HR.out (by omega)
  clear hV HY20 HY21 HX23 HK22
  clear c1 c2 c3 c4 c5 c6 c7 c8 c9 g1 g2 g3 g4 g5 g6 g7 g8 g9
  go_wp2_with fail
  refine (HM.out _ HK28.out.1).mono ?_
  rintro e w29 ⟨rfl, hk⟩
  have HY30 := Lib.hid (hk.row HY25.out (by omega))
  have HY31 := Lib.hid (hk.row HY26.out (by omega))
  have HX32 := Lib.hid (HX27.out.took hk (by omega))
  have HK33 := Lib.hid (HK28.out.trans hk)
  clear HY25 HY26 HX27 HK28
  clear hk
  go_upto_region 10 with (fail)
  go_step
  refine wpList_load_row rfl 56 (.tmp 3) rfl w1.heap.size rfl 56 (eqCells ⟨nm, 2, Ex.zero, x⟩ none 0 Ax cx).toArray (0, 0) _ HY31.out Try.underlying56 rfl infoEq ?_
  refine wpList_store_row rfl 56 (.tmp 2) (.tmp 36) rfl w.heap.size (eqCells ⟨nm, 2, Ex.zero, x⟩ none 0 Ax cx).toArray rfl rfl 56 zeq HY30.out infoEq rfl (all_oneCell_toArray (eqCells_one _ _ _ _ _)) ?_
  have hz := setRow_heap _ _ _ (eqCells ⟨nm, 2, Ex.zero, x⟩ none 0 Ax cx).toArray _ _ HY30.out
  have hX := HX32.out.grown (grown_setRow _ w.heap.size (eqCells ⟨nm, 2, Ex.zero, x⟩ none 0 Ax cx).toArray) (by omega)
  go_wp2_with fail
  exact ret_row 2 rfl rfl rfl hz Try.underlying56 infoEq ⟨_, _, _, _, rfl, at_zero _ _ _, hX.base (fun b hb _ => by omega), HK33.out.setRow HR.out (Nat.le_refl _) _⟩
set_option maxRecDepth 100000 in
set_option maxHeartbeats 16000000 in
theorem eq_plain (bp : Nat) (A : Option Addr) (c : Nat) (ts : List Lx.Tok) (s : St) (h1 : sees ts (Tr.need ts (Tr.name ts s).2 [61]) wPre = false) (h2 : firstP ts (Tr.need ts (Tr.name ts s).2 [61]) = none) (w : World) (h : RowAt w bp 61 A c ts s) :
    Calls Try.prog 34 #[.pointer (some ⟨bp, 0, none⟩)] w (EqPost w bp A c ts (⟨(Tr.name ts s).1, 0, Ex.zero, (P ts .expr (Tr.need ts (Tr.name ts s).2 [61])).1⟩, Tr.need ts (P ts .expr (Tr.need ts (Tr.name ts s).2 [61])).2 [59])) := by
  have HR := Lib.hid h
  have hbw := h.lt
  have HW0 : Hid (∀ V, Below w.heap.size w (w.alloc V)) := fun V => (Below.refl _ _).alloc (Nat.le_refl _) V
  clear h
  have HC := Lib.hid (fun W h => name_any bp A c ts s W h)
  generalize Tr.name ts s = nm at *
  obtain ⟨nm, s1⟩ := nm
  dsimp only at *
  have HN := Lib.hid (fun W h => need_any bp A c ts s1 [61] W h)
  generalize Tr.need ts s1 [61] = s2 at *

  have HT := Lib.hid (fun W h => take_any bp A c ts s2 wPre W h)
  rw [h1, if_neg (by decide)] at HT
  unfold wPre at HT
  clear h1
  have HF := Lib.hid (fun W h => first_any bp A c ts s2 W h)
  rw [h2] at HF
  clear h2
  unfold FirstPost at HF
  have HE := Lib.hid (fun W h => pexpr bp A c ts s2 W h)
  generalize P ts .expr s2 = q at *
  obtain ⟨x, s3⟩ := q
  dsimp only at *
  have HM := Lib.hid (fun W h => need_any bp A c ts s3 [59] W h)
  generalize Tr.need ts s3 [59] = s4 at *
  go_enter Try.func34, Try.ntmps34
  go_wp2_with fail
  obtain ⟨W0, hW0⟩ : ∃ W0, W0 = w.alloc (.cells zeq 56) := ⟨_, rfl⟩
  unfold zeq at hW0
  rw [← hW0]
  have HB0 : Hid (Below w.heap.size w W0) := by rw [hW0]; exact HW0.out _
  have HZ0 : Hid (W0.heap[w.heap.size]? = some (.cells zeq 56 (0, 0))) := by rw [hW0]; exact heap_alloc_new _ _
  have HK0 : Hid (Took w bp 61 A c ts s W0) := (took_refl HR.out).below HB0.out
  clear hW0
  refine (HC.out _ HK0.out.1).mono ?_
  rintro e w1 ⟨rfl, hk⟩
  have HY2 := Lib.hid (hk.row HZ0.out (by omega))
  have HK3 := Lib.hid (HK0.out.trans hk)
  clear HZ0 HK0
  clear hk
  go_wp2_with fail
  have hz_HY2 := (Array.getElem?_eq_some_iff.1 HY2.out).1
  obtain ⟨W4, hW⟩ : ∃ W, W = w1.alloc (.cells #[.string ⟨nm.toArray⟩, .int .i64 0, .int .i64 0, .int .i32 0, .string ⟨#[]⟩, .slice none 0 0, .int .i64 0, .int .i32 0, .string ⟨#[]⟩, .slice none 0 0] 56) := ⟨_, rfl⟩
  rw [← hW]
  have hbx : Below w1.heap.size w1 W4 := by rw [hW]; exact (Below.refl _ _).alloc (Nat.le_refl _) _
  have HN4 : Hid (W4.heap[w1.heap.size]? = some (.cells #[.string ⟨nm.toArray⟩, .int .i64 0, .int .i64 0, .int .i32 0, .string ⟨#[]⟩, .slice none 0 0, .int .i64 0, .int .i32 0, .string ⟨#[]⟩, .slice none 0 0] 56 (0, 0))) := by rw [hW]; exact heap_alloc_new _ _
  have hlo4 : w.heap.size < w1.heap.size := (Array.getElem?_eq_some_iff.1 HY2.out).1
  clear hW
  have HY5 := Lib.hid ((hbx.block _ (Array.getElem?_eq_some_iff.1 HY2.out).1).trans HY2.out)
  have HK6 := Lib.hid (HK3.out.below hbx)
  clear HY2 HK3
  clear hbx
  refine (HN.out _ HK6.out.1).mono ?_
  rintro e w7 ⟨rfl, hk⟩
  have HY8 := Lib.hid (hk.row HY5.out (by omega))
  have HY9 := Lib.hid (hk.row HN4.out (by omega))
  have HK10 := Lib.hid (HK6.out.trans hk)
  clear HY5 HN4 HK6
  clear hk
  go_wp2_with fail
  refine (HT.out _ HK10.out.1).mono ?_
  rintro e w11 ⟨rfl, hk⟩
  have HY12 := Lib.hid (hk.row HY8.out (by omega))
  have HY13 := Lib.hid (hk.row HY9.out (by omega))
  have HK14 := Lib.hid (HK10.out.trans hk)
  clear HY8 HY9 HK10
  clear hk
  go_wp2_with fail
  refine (HF.out _ HK14.out.1).mono ?_
  rintro e w15 ⟨rfl, hk⟩
  have HY16 := Lib.hid (hk.row HY12.out (by omega))
  have HY17 := Lib.hid (hk.row HY13.out (by omega))
  have HK18 := Lib.hid (HK14.out.trans hk)
  clear HY12 HY13 HK14
  clear hk
  unfold exAgg Ex.zero
  dsimp only [Ex.kind, Ex.n, Ex.name, Ex.sub]
  go_upto_region 6 with (fail)
  have hz_HY16 := (Array.getElem?_eq_some_iff.1 HY16.out).1
  have hz_HY17 := (Array.getElem?_eq_some_iff.1 HY17.out).1
  obtain ⟨W19, hW⟩ : ∃ W, W = w15.alloc (.cells #[.int .i64 0, .int .i32 0, .string ⟨#[]⟩, .slice none 0 0] 43) := ⟨_, rfl⟩
  rw [← hW]
  have hbx : Below w15.heap.size w15 W19 := by rw [hW]; exact (Below.refl _ _).alloc (Nat.le_refl _) _
  have HN19 : Hid (W19.heap[w15.heap.size]? = some (.cells #[.int .i64 0, .int .i32 0, .string ⟨#[]⟩, .slice none 0 0] 43 (0, 0))) := by rw [hW]; exact heap_alloc_new _ _
  have hlo19 : w.heap.size < w15.heap.size := (Array.getElem?_eq_some_iff.1 HY16.out).1
  clear hW
  have HY20 := Lib.hid ((hbx.block _ (Array.getElem?_eq_some_iff.1 HY16.out).1).trans HY16.out)
  have HY21 := Lib.hid ((hbx.block _ (Array.getElem?_eq_some_iff.1 HY17.out).1).trans HY17.out)
  have HK22 := Lib.hid (HK18.out.below hbx)
  clear HY16 HY17 HK18
  clear hbx
  clear HN19
  have hdm : (#[] : Array UInt8) = #[] := rfl
  go_wp2_with fail
  have hzz23 := (Array.getElem?_eq_some_iff.1 HY20.out).1
  have hzHY21_23 := (Array.getElem?_eq_some_iff.1 HY21.out).1
  refine (HE.out _ HK22.out.1).mono ?_
  rintro e w23 ⟨Ax, cx, rfl, hat, hk⟩
  have HY24 := Lib.hid (hk.row HY20.out (by omega))
  have HY25 := Lib.hid (hk.row HY21.out (by omega))
  have HK26 := Lib.hid (HK22.out.trans hk)
  clear HY20 HY21 HK22
  have HX27 := Lib.hid (hat.base (B' := fun b => w1.heap.size < b) (fun b hb hl => Nat.lt_of_lt_of_le hzHY21_23 hb))
  clear hat hk
  unfold exAgg
  dsimp only
  obtain ⟨⟨c1, c2, c3, c4, c5, c6, c7, c8, c9⟩, g1, g2, g3, g4, g5, g6, g7, g8, g9⟩ := row10 HY25.out
  go_upto_region 9 with (fail)
  obtain ⟨V28, hV⟩ : ∃ W, W = (((w23.setCell ⟨w1.heap.size, 6, none⟩ (.int .i64 x.kind)).setCell ⟨w1.heap.size, 7, none⟩ (.int .i32 x.n)).setCell ⟨w1.heap.size, 8, none⟩ (.string ⟨x.name.toArray⟩)).setCell ⟨w1.heap.size, 9, none⟩ (.slice Ax x.sub.length cx) := ⟨_, rfl⟩
  rw [← hV]
  have HY29 : Hid (V28.heap[w.heap.size]? = some (.cells zeq 56 (0, 0))) := by rw [hV]; exact set4_keep HY24.out (by omega) _ _ _ _
  have HY30 : Hid (V28.heap[w1.heap.size]? = some (.cells #[.string ⟨nm.toArray⟩, .int .i64 0, .int .i64 0, .int .i32 0, .string ⟨#[]⟩, .slice none 0 0, .int .i64 x.kind, .int .i32 x.n, .string ⟨x.name.toArray⟩, .slice Ax x.sub.length cx] 56 (0, 0))) := by rw [hV]; exact setE_row10 HY25.out _ _ _ _
  have HX31 : Hid (At V28 (fun b => w1.heap.size < b) x Ax) := by rw [hV]; exact HX27.out.grown (grown_set4' _ _ _ _) (Nat.lt_irrefl _)
  have HK32 : Hid (Took w bp 61 A c ts s3 V28) := by rw [hV]; exact HK26.out.ours (grown_set4' _ _ _ _) HR.out (by omega)
  clear hV HY24 HY25 HX27 HK26
  clear c1 c2 c3 c4 c5 c6 c7 c8 c9 g1 g2 g3 g4 g5 g6 g7 g8 g9
  go_wp2_with fail
  refine (HM.out _ HK32.out.1).mono ?_
  rintro e w33 ⟨rfl, hk⟩
  have HY34 := Lib.hid (hk.row HY29.out (by omega))
  have HY35 := Lib.hid (hk.row HY30.out (by omega))
  have HX36 := Lib.hid (HX31.out.took hk (by omega))
  have HK37 := Lib.hid (HK32.out.trans hk)
  clear HY29 HY30 HX31 HK32
  clear hk
  go_upto_region 10 with (fail)
  go_step
  refine wpList_load_row rfl 56 (.tmp 3) rfl w1.heap.size rfl 56 (eqCells ⟨nm, 0, Ex.zero, x⟩ none 0 Ax cx).toArray (0, 0) _ HY35.out Try.underlying56 rfl infoEq ?_
  refine wpList_store_row rfl 56 (.tmp 2) (.tmp 36) rfl w.heap.size (eqCells ⟨nm, 0, Ex.zero, x⟩ none 0 Ax cx).toArray rfl rfl 56 zeq HY34.out infoEq rfl (all_oneCell_toArray (eqCells_one _ _ _ _ _)) ?_
  have hz := setRow_heap _ _ _ (eqCells ⟨nm, 0, Ex.zero, x⟩ none 0 Ax cx).toArray _ _ HY34.out
  have hX := HX36.out.grown (grown_setRow _ w.heap.size (eqCells ⟨nm, 0, Ex.zero, x⟩ none 0 Ax cx).toArray) (by omega)
  go_wp2_with fail
  exact ret_row 2 rfl rfl rfl hz Try.underlying56 infoEq ⟨_, _, _, _, rfl, at_zero _ _ _, hX.base (fun b hb _ => by omega), HK37.out.setRow HR.out (Nat.le_refl _) _⟩
set_option maxRecDepth 100000 in
set_option maxHeartbeats 16000000 in
theorem eq_fby (bp : Nat) (A : Option Addr) (c : Nat) (ts : List Lx.Tok) (s : St) (x0 : Ex) (s0 : St) (h1 : sees ts (Tr.need ts (Tr.name ts s).2 [61]) wPre = false) (h2 : firstP ts (Tr.need ts (Tr.name ts s).2 [61]) = some (x0, s0)) (w : World) (h : RowAt w bp 61 A c ts s) :
    Calls Try.prog 34 #[.pointer (some ⟨bp, 0, none⟩)] w (EqPost w bp A c ts (⟨(Tr.name ts s).1, 1, x0, (P ts .expr s0).1⟩, Tr.need ts (P ts .expr s0).2 [59])) := by
  have HR := Lib.hid h
  have hbw := h.lt
  have HW0 : Hid (∀ V, Below w.heap.size w (w.alloc V)) := fun V => (Below.refl _ _).alloc (Nat.le_refl _) V
  clear h
  have HC := Lib.hid (fun W h => name_any bp A c ts s W h)
  generalize Tr.name ts s = nm at *
  obtain ⟨nm, s1⟩ := nm
  dsimp only at *
  have HN := Lib.hid (fun W h => need_any bp A c ts s1 [61] W h)
  generalize Tr.need ts s1 [61] = s2 at *

  have HT := Lib.hid (fun W h => take_any bp A c ts s2 wPre W h)
  rw [h1, if_neg (by decide)] at HT
  unfold wPre at HT
  clear h1
  have HF := Lib.hid (fun W h => first_any bp A c ts s2 W h)
  rw [h2] at HF
  clear h2
  unfold FirstPost at HF
  have HE := Lib.hid (fun W h => pexpr bp A c ts s0 W h)
  generalize P ts .expr s0 = q at *
  obtain ⟨x, s3⟩ := q
  dsimp only at *
  have HM := Lib.hid (fun W h => need_any bp A c ts s3 [59] W h)
  generalize Tr.need ts s3 [59] = s4 at *
  go_enter Try.func34, Try.ntmps34
  go_wp2_with fail
  obtain ⟨W0, hW0⟩ : ∃ W0, W0 = w.alloc (.cells zeq 56) := ⟨_, rfl⟩
  unfold zeq at hW0
  rw [← hW0]
  have HB0 : Hid (Below w.heap.size w W0) := by rw [hW0]; exact HW0.out _
  have HZ0 : Hid (W0.heap[w.heap.size]? = some (.cells zeq 56 (0, 0))) := by rw [hW0]; exact heap_alloc_new _ _
  have HK0 : Hid (Took w bp 61 A c ts s W0) := (took_refl HR.out).below HB0.out
  clear hW0
  refine (HC.out _ HK0.out.1).mono ?_
  rintro e w1 ⟨rfl, hk⟩
  have HY2 := Lib.hid (hk.row HZ0.out (by omega))
  have HK3 := Lib.hid (HK0.out.trans hk)
  clear HZ0 HK0
  clear hk
  go_wp2_with fail
  have hz_HY2 := (Array.getElem?_eq_some_iff.1 HY2.out).1
  obtain ⟨W4, hW⟩ : ∃ W, W = w1.alloc (.cells #[.string ⟨nm.toArray⟩, .int .i64 0, .int .i64 0, .int .i32 0, .string ⟨#[]⟩, .slice none 0 0, .int .i64 0, .int .i32 0, .string ⟨#[]⟩, .slice none 0 0] 56) := ⟨_, rfl⟩
  rw [← hW]
  have hbx : Below w1.heap.size w1 W4 := by rw [hW]; exact (Below.refl _ _).alloc (Nat.le_refl _) _
  have HN4 : Hid (W4.heap[w1.heap.size]? = some (.cells #[.string ⟨nm.toArray⟩, .int .i64 0, .int .i64 0, .int .i32 0, .string ⟨#[]⟩, .slice none 0 0, .int .i64 0, .int .i32 0, .string ⟨#[]⟩, .slice none 0 0] 56 (0, 0))) := by rw [hW]; exact heap_alloc_new _ _
  have hlo4 : w.heap.size < w1.heap.size := (Array.getElem?_eq_some_iff.1 HY2.out).1
  clear hW
  have HY5 := Lib.hid ((hbx.block _ (Array.getElem?_eq_some_iff.1 HY2.out).1).trans HY2.out)
  have HK6 := Lib.hid (HK3.out.below hbx)
  clear HY2 HK3
  clear hbx
  refine (HN.out _ HK6.out.1).mono ?_
  rintro e w7 ⟨rfl, hk⟩
  have HY8 := Lib.hid (hk.row HY5.out (by omega))
  have HY9 := Lib.hid (hk.row HN4.out (by omega))
  have HK10 := Lib.hid (HK6.out.trans hk)
  clear HY5 HN4 HK6
  clear hk
  go_wp2_with fail
  refine (HT.out _ HK10.out.1).mono ?_
  rintro e w11 ⟨rfl, hk⟩
  have HY12 := Lib.hid (hk.row HY8.out (by omega))
  have HY13 := Lib.hid (hk.row HY9.out (by omega))
  have HK14 := Lib.hid (HK10.out.trans hk)
  clear HY8 HY9 HK10
  clear hk
  go_wp2_with fail
  have hz_HY12 := (Array.getElem?_eq_some_iff.1 HY12.out).1
  have hz_HY13 := (Array.getElem?_eq_some_iff.1 HY13.out).1
  refine (HF.out _ HK14.out.1).mono ?_
  rintro e wf ⟨Ay, cy, rfl, hat, hk⟩
  have hzq := (Array.getElem?_eq_some_iff.1 HY13.out).1
  have HY15 := Lib.hid (hk.row HY12.out (by omega))
  have HY16 := Lib.hid (hk.row HY13.out (by omega))
  have HK17 := Lib.hid (HK14.out.trans hk)
  clear HY12 HY13 HK14
  have HX0 := Lib.hid (hat.base (B' := fun b => w1.heap.size < b) (fun b hb hl => Nat.lt_of_lt_of_le hzq hb))
  clear hat hk
  unfold exAgg
  dsimp only
  go_upto_region 6 with (fail)
  have hz_HY15 := (Array.getElem?_eq_some_iff.1 HY15.out).1
  have hz_HY16 := (Array.getElem?_eq_some_iff.1 HY16.out).1
  obtain ⟨W18, hW⟩ : ∃ W, W = wf.alloc (.cells #[.int .i64 x0.kind, .int .i32 x0.n, .string ⟨x0.name.toArray⟩, .slice Ay x0.sub.length cy] 43) := ⟨_, rfl⟩
  rw [← hW]
  have hbx : Below wf.heap.size wf W18 := by rw [hW]; exact (Below.refl _ _).alloc (Nat.le_refl _) _
  have HN18 : Hid (W18.heap[wf.heap.size]? = some (.cells #[.int .i64 x0.kind, .int .i32 x0.n, .string ⟨x0.name.toArray⟩, .slice Ay x0.sub.length cy] 43 (0, 0))) := by rw [hW]; exact heap_alloc_new _ _
  have hlo18 : w.heap.size < wf.heap.size := (Array.getElem?_eq_some_iff.1 HY15.out).1
  clear hW
  have HY19 := Lib.hid ((hbx.block _ (Array.getElem?_eq_some_iff.1 HY15.out).1).trans HY15.out)
  have HY20 := Lib.hid ((hbx.block _ (Array.getElem?_eq_some_iff.1 HY16.out).1).trans HY16.out)
  have HX21 := Lib.hid (HX0.out.below hbx (Nat.le_refl _))
  have HK22 := Lib.hid (HK17.out.below hbx)
  clear HY15 HY16 HX0 HK17
  clear hbx
  have hz_HY19 := (Array.getElem?_eq_some_iff.1 HY19.out).1
  have hz_HY20 := (Array.getElem?_eq_some_iff.1 HY20.out).1
  have hz_HN18 := (Array.getElem?_eq_some_iff.1 HN18.out).1
  obtain ⟨⟨c1, c2, c3, c4, c5, c6, c7, c8, c9⟩, g1, g2, g3, g4, g5, g6, g7, g8, g9⟩ := row10 HY20.out
  obtain ⟨m0, m1, m2, m3, _⟩ := row4 HN18.out
  go_wp2_with fail
  have hnb : wf.heap.size ≠ w1.heap.size := by omega
  go_region_held3 (fun W => W.cell? ⟨wf.heap.size, 0, none⟩ = some (.int .i64 x0.kind) ∧ W.cell? ⟨wf.heap.size, 1, none⟩ = some (.int .i32 x0.n) ∧ W.cell? ⟨wf.heap.size, 2, none⟩ = some (.string ⟨x0.name.toArray⟩) ∧ W.cell? ⟨wf.heap.size, 3, none⟩ = some (.slice Ay x0.sub.length cy))
      (first | (with_reducible exact row4c (row_drew HN18.out)) | (with_reducible exact row4c (row_drew (set1_keep HN18.out hnb _))) | (with_reducible exact row4c (row_drew (set4_keep HN18.out hnb _ _ _ _))) | (with_reducible exact row4c (row_drew (set4_keep (set1_keep HN18.out hnb _) hnb _ _ _ _))) | (with_reducible exact row4c (row_drew (set1_keep (set4_keep HN18.out hnb _ _ _ _) hnb _)))) (fail)
  clear c1 c2 c3 c4 c5 c6 c7 c8 c9 g1 g2 g3 g4 g5 g6 g7 g8 g9
  obtain ⟨V23, hV⟩ : ∃ W, W = (((((W18.setCell ⟨w1.heap.size, 1, none⟩ (.int .i64 1)).setCell ⟨w1.heap.size, 2, none⟩ (.int .i64 x0.kind)).setCell ⟨w1.heap.size, 3, none⟩ (.int .i32 x0.n)).setCell ⟨w1.heap.size, 4, none⟩ (.string ⟨x0.name.toArray⟩)).setCell ⟨w1.heap.size, 5, none⟩ (.slice Ay x0.sub.length cy)).drew := ⟨_, rfl⟩
  rw [← hV]
  have HY24 : Hid (V23.heap[w.heap.size]? = some (.cells zeq 56 (0, 0))) := by rw [hV]; exact row_drew (set4_keep (set1_keep HY19.out (by omega) _) (by omega) _ _ _ _)
  have HY25 : Hid (V23.heap[w1.heap.size]? = some (.cells #[.string ⟨nm.toArray⟩, .int .i64 1, .int .i64 x0.kind, .int .i32 x0.n, .string ⟨x0.name.toArray⟩, .slice Ay x0.sub.length cy, .int .i64 0, .int .i32 0, .string ⟨#[]⟩, .slice none 0 0] 56 (0, 0))) := by rw [hV]; exact row_drew (setF_row10 (set1_row10 HY20.out _) _ _ _ _)
  have HX26 : Hid (At V23 (fun b => w1.heap.size < b) x0 Ay) := by rw [hV]; exact ((HX21.out.grown (grown_setCell _ _ _ _) (Nat.lt_irrefl _)).grown (grown_set4' _ _ _ _) (Nat.lt_irrefl _)).below (Below.refl _ _).drew (Nat.le_refl _)
  have HK27 : Hid (Took w bp 61 A c ts s0 V23) := by rw [hV]; exact ((HK22.out.ours (grown_setCell _ _ _ _) HR.out (by omega)).ours (grown_set4' _ _ _ _) HR.out (by omega)).below (Below.refl _ _).drew
  clear hV HY19 HY20 HX21 HK22
  have hz_HY24 := (Array.getElem?_eq_some_iff.1 HY24.out).1
  have hz_HY25 := (Array.getElem?_eq_some_iff.1 HY25.out).1
  go_wp2_with fail
  have hzz28 := (Array.getElem?_eq_some_iff.1 HY24.out).1
  have hzHY25_28 := (Array.getElem?_eq_some_iff.1 HY25.out).1
  refine (HE.out _ HK27.out.1).mono ?_
  rintro e w28 ⟨Ax, cx, rfl, hat, hk⟩
  have HY29 := Lib.hid (hk.row HY24.out (by omega))
  have HY30 := Lib.hid (hk.row HY25.out (by omega))
  have HX31 := Lib.hid (HX26.out.took hk (by omega))
  have HK32 := Lib.hid (HK27.out.trans hk)
  clear HY24 HY25 HX26 HK27
  have HX33 := Lib.hid (hat.base (B' := fun b => w1.heap.size < b) (fun b hb hl => Nat.lt_of_lt_of_le hzHY25_28 hb))
  clear hat hk
  unfold exAgg
  dsimp only
  obtain ⟨⟨c1, c2, c3, c4, c5, c6, c7, c8, c9⟩, g1, g2, g3, g4, g5, g6, g7, g8, g9⟩ := row10 HY30.out
  go_upto_region 9 with (fail)
  obtain ⟨V34, hV⟩ : ∃ W, W = (((w28.setCell ⟨w1.heap.size, 6, none⟩ (.int .i64 x.kind)).setCell ⟨w1.heap.size, 7, none⟩ (.int .i32 x.n)).setCell ⟨w1.heap.size, 8, none⟩ (.string ⟨x.name.toArray⟩)).setCell ⟨w1.heap.size, 9, none⟩ (.slice Ax x.sub.length cx) := ⟨_, rfl⟩
  rw [← hV]
  have HY35 : Hid (V34.heap[w.heap.size]? = some (.cells zeq 56 (0, 0))) := by rw [hV]; exact set4_keep HY29.out (by omega) _ _ _ _
  have HY36 : Hid (V34.heap[w1.heap.size]? = some (.cells #[.string ⟨nm.toArray⟩, .int .i64 1, .int .i64 x0.kind, .int .i32 x0.n, .string ⟨x0.name.toArray⟩, .slice Ay x0.sub.length cy, .int .i64 x.kind, .int .i32 x.n, .string ⟨x.name.toArray⟩, .slice Ax x.sub.length cx] 56 (0, 0))) := by rw [hV]; exact setE_row10 HY30.out _ _ _ _
  have HX37 : Hid (At V34 (fun b => w1.heap.size < b) x0 Ay) := by rw [hV]; exact HX31.out.grown (grown_set4' _ _ _ _) (Nat.lt_irrefl _)
  have HX38 : Hid (At V34 (fun b => w1.heap.size < b) x Ax) := by rw [hV]; exact HX33.out.grown (grown_set4' _ _ _ _) (Nat.lt_irrefl _)
  have HK39 : Hid (Took w bp 61 A c ts s3 V34) := by rw [hV]; exact HK32.out.ours (grown_set4' _ _ _ _) HR.out (by omega)
  clear hV HY29 HY30 HX31 HX33 HK32
  clear c1 c2 c3 c4 c5 c6 c7 c8 c9 g1 g2 g3 g4 g5 g6 g7 g8 g9
  go_wp2_with fail
  refine (HM.out _ HK39.out.1).mono ?_
  rintro e w40 ⟨rfl, hk⟩
  have HY41 := Lib.hid (hk.row HY35.out (by omega))
  have HY42 := Lib.hid (hk.row HY36.out (by omega))
  have HX43 := Lib.hid (HX37.out.took hk (by omega))
  have HX44 := Lib.hid (HX38.out.took hk (by omega))
  have HK45 := Lib.hid (HK39.out.trans hk)
  clear HY35 HY36 HX37 HX38 HK39
  clear hk
  go_upto_region 10 with (fail)
  go_step
  refine wpList_load_row rfl 56 (.tmp 3) rfl w1.heap.size rfl 56 (eqCells ⟨nm, 1, x0, x⟩ Ay cy Ax cx).toArray (0, 0) _ HY42.out Try.underlying56 rfl infoEq ?_
  refine wpList_store_row rfl 56 (.tmp 2) (.tmp 36) rfl w.heap.size (eqCells ⟨nm, 1, x0, x⟩ Ay cy Ax cx).toArray rfl rfl 56 zeq HY41.out infoEq rfl (all_oneCell_toArray (eqCells_one _ _ _ _ _)) ?_
  have hz := setRow_heap _ _ _ (eqCells ⟨nm, 1, x0, x⟩ Ay cy Ax cx).toArray _ _ HY41.out
  have hX := HX44.out.grown (grown_setRow _ w.heap.size (eqCells ⟨nm, 1, x0, x⟩ Ay cy Ax cx).toArray) (by omega)
  go_wp2_with fail
  exact ret_row 2 rfl rfl rfl hz Try.underlying56 infoEq ⟨_, _, _, _, rfl, (HX43.out.grown (grown_setRow _ w.heap.size _) (by omega)).base (fun b hb _ => by omega), hX.base (fun b hb _ => by omega), HK45.out.setRow HR.out (Nat.le_refl _) _⟩
theorem equation_any (bp : Nat) (A : Option Addr) (c : Nat) (ts : List Lx.Tok) (s : St) (w : World) (h : RowAt w bp 61 A c ts s) :
    Calls Try.prog 34 #[.pointer (some ⟨bp, 0, none⟩)] w (EqPost w bp A c ts (eqP ts s)) := by
  unfold eqP
  rcases h1 : sees ts (Tr.need ts (Tr.name ts s).2 [61]) wPre with _ | _
  · rw [if_neg (by decide)]
    rcases h2 : firstP ts (Tr.need ts (Tr.name ts s).2 [61]) with _ | ⟨x0, s0⟩
    · exact eq_plain bp A c ts s h1 h2 w h
    · exact eq_fby bp A c ts s x0 s0 h1 h2 w h
  · rw [if_pos rfl]
    exact eq_pre bp A c ts s h1 w h
end Go.Proofs.Ytilkilffkjhhbaa
