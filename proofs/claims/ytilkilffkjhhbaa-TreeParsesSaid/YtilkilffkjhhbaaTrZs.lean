/-
  The reference's equations: what stands ahead.
  The reference's equations: pre, and where nothing can stand any more.
-/
import Derived.Test.YtilkilffkjhhbaaTrZr
import Derived.Test.YtilkilffkjhhbaaTrZa
import Derived.Test.YtilkilffkjhhbaaTrW1
import Derived.StillTailTactics
import Derived.Deep.DeepCutAuto
import Derived.Laws.Slices
namespace Go.Proofs.Ytilkilffkjhhbaa
set_option maxRecDepth 20000
set_option linter.unusedVariables false
open Go.RowKit Tr Mem


def rEqPost (w : World) (bp : Nat) (A : Option Addr) (c : Nat) (ts : List Lx.Tok) (r : Eqn × St) (e : Ending) (w' : World) : Prop :=
  ∃ AF cF AE cE, e = .returned (.agg (eqCells r.1 AF cF AE cE).toArray) ∧ At w' (fun b => w.heap.size ≤ b) r.1.first AF ∧ At w' (fun b => w.heap.size ≤ b) r.1.e AE ∧ Took w bp 66 A c ts r.2 w'
theorem size_tok (w : World) : (sizeOf (Try.prog.elem 36)).run Try.prog w = .ok 4 w := by
  have e : Try.prog.elem 36 = 40 := by kernel_rfl
  obtain ⟨i0, hi, hi0, hi1, hi2⟩ := info_parts infoTok
  rw [e, run_sizeOf _ hi]
  have : Try.prog.cellsOf 40 = 4 := by kernel_rfl
  rw [this]
theorem tok_slice_to (b off n c k : Nat) (h1 : k < n) (h2 : n ≤ c) (wx : World) : (Instr.slice 36 (.slice (some ⟨b, off, none⟩) n c) none (some (.int .i64 (k : Int))) none).run Try.prog wx = .ok (.slice (some ⟨b, off, none⟩) k c) wx := by
  rw [run_slice_h (P := Try.prog) wx _ _ n c (by kernel_rfl) _ _ (by omega) (by omega), size_tok]
  simp only [Result.andThen, Int.toNat_natCast]
  unfold Go.sliced
  simp [add_plain]
theorem TokAt.take {w : World} {A : Option Addr} {ts : List Lx.Tok} (h : TokAt w A ts) (k : Nat) : TokAt w A (ts.take k) := by
  intro j hj
  have hj' : j < ts.length := by rw [List.length_take] at hj; omega
  have := h j hj'
  rw [List.getElem_take]
  exact this
theorem Took.goto {w W : World} {bp : Nat} {ty : TypeId} {A : Option Addr} {c : Nat} {ts : List Lx.Tok} {s : St} (h : Took w bp ty A c ts s W) (hb : s.bad = false) {k : Nat} (hk : k < ts.length) : Took w bp ty A c ts ⟨k + 1, false⟩ (W.setCell ⟨bp, 1, none⟩ (.int .i64 ((k : Int) + 1))) := by
  refine ⟨⟨?_, toks_other h.1.toks (grown_setCell W bp 1 _) (fun _ => h.1.ne), h.1.ne, by simp only; omega, h.1.len⟩, World.grownBy.trans h.2 (grown_setCell _ _ _ _)⟩
  rw [heap_setCell_same W bp 1 _ _ _ h.1.row, hb]
  rfl
/-- a row of the tokens up to a place -/
theorem RowAt.sub {w W : World} {bp sp : Nat} {A : Option Addr} {c : Nat} {ts : List Lx.Tok} {s : St} {k : Nat} (h : RowAt w bp 66 A c ts s) (hk : s.at_ ≤ k) (hlt : k < ts.length)
    (hrow : W.heap[sp]? = some (.cells #[.slice A k c, .int .i64 (s.at_ : Int), .bool false] 66 (0, 0))) (ht : TokAt W A ts) (hne : ∀ b o p, A = some ⟨b, o, p⟩ → b ≠ sp) : RowAt W sp 66 A c (ts.take k) ⟨s.at_, false⟩ := by
  have hl : (ts.take k).length = k := by rw [List.length_take]; omega
  refine ⟨?_, ht.take k, hne, by rw [hl]; exact hk, by rw [hl]; have := h.len; omega⟩
  rw [hl]; exact hrow

end Go.Proofs.Ytilkilffkjhhbaa
namespace Go.Proofs.Ytilkilffkjhhbaa
set_option maxRecDepth 20000
set_option linter.unusedVariables false
open Go.RowKit Tr Mem

set_option maxRecDepth 100000 in
set_option maxHeartbeats 16000000 in
theorem req_pre (bp : Nat) (A : Option Addr) (c : Nat) (ts : List Lx.Tok) (s : St) (h1 : sees ts (Tr.need ts (Tr.name ts s).2 [61]) wPre = true) (w : World) (h : RowAt w bp 66 A c ts s) :
    Calls Try.prog 42 #[.pointer (some ⟨bp, 0, none⟩)] w (rEqPost w bp A c ts (⟨(Tr.name ts s).1, 2, Ex.zero, (P ts .expr (Tr.need ts (Tr.name ts s).2 [61]).adv).1⟩, Tr.need ts (P ts .expr (Tr.need ts (Tr.name ts s).2 [61]).adv).2 [59])) := by
  have HR := Lib.hid h
  have hbw := h.lt
  have hlen0 := h.len
  have HW0 : Hid (∀ V, Below w.heap.size w (w.alloc V)) := fun V => (Below.refl _ _).alloc (Nat.le_refl _) V
  clear h
  have HC := Lib.hid (fun W h => rkind_any bp A c ts s 1 W h)
  unfold tokAgg at HC
  unfold Tr.name at *
  generalize token ts s 1 = tk at *
  obtain ⟨⟨kd, nm, nn, pl⟩, s1⟩ := tk
  dsimp only at *
  have HN := Lib.hid (fun W h => rneed_any bp A c ts s1 [61] W h)
  generalize Tr.need ts s1 [61] = s2 at *
  have hfl := fun W => field_text W kd nn pl nm

  have HT := Lib.hid (fun W h => rtake_any bp A c ts s2 wPre W h)
  rw [h1, if_pos rfl] at HT
  unfold wPre at HT
  clear h1
  have HE := Lib.hid (fun W h => rpexpr bp A c ts s2.adv W h)
  generalize P ts .expr s2.adv = q at *
  obtain ⟨x, s3⟩ := q
  dsimp only at *
  have HM := Lib.hid (fun W h => rneed_any bp A c ts s3 [59] W h)
  generalize Tr.need ts s3 [59] = s4 at *
  go_enter Try.func42, Try.ntmps42
  go_wp2_with fail
  obtain ⟨W0, hW0⟩ : ∃ W0, W0 = w.alloc (.cells zeq 56) := ⟨_, rfl⟩
  unfold zeq at hW0
  rw [← hW0]
  have HB0 : Hid (Below w.heap.size w W0) := by rw [hW0]; exact HW0.out _
  have HZ0 : Hid (W0.heap[w.heap.size]? = some (.cells zeq 56 (0, 0))) := by rw [hW0]; exact heap_alloc_new _ _
  have HK0 : Hid (Took w bp 66 A c ts s W0) := (took_refl HR.out).below HB0.out
  clear hW0
  refine (HC.out _ HK0.out.1).mono ?_
  rintro e w1 ⟨rfl, hk⟩
  have HY2 := Lib.hid (hk.row HZ0.out (by omega))
  have HK3 := Lib.hid (HK0.out.trans hk)
  clear HZ0 HK0
  clear hk
  go_wp2_with fail
  have hz_HY2 := (Array.getElem?_eq_some_iff.1 HY2.out).1
  obtain ⟨W4, hW⟩ : ∃ W, W = w1.alloc (.cells #[.string ⟨nm.toArray⟩, .int .i64 0, .int .i64 0, .int .i32 0, .string ⟨#[]⟩, .slice none 0 0, .int .i64 0, .int .i32 0, .string ⟨#[]⟩, .slice none 0 0] 56) := ⟨_, rfl⟩
  rw [← hW]
  have hbx : Below w1.heap.size w1 W4 := by rw [hW]; exact (Below.refl _ _).alloc (Nat.le_refl _) _
  have HN4 : Hid (W4.heap[w1.heap.size]? = some (.cells #[.string ⟨nm.toArray⟩, .int .i64 0, .int .i64 0, .int .i32 0, .string ⟨#[]⟩, .slice none 0 0, .int .i64 0, .int .i32 0, .string ⟨#[]⟩, .slice none 0 0] 56 (0, 0))) := by rw [hW]; exact heap_alloc_new _ _
  have hlo4 : w.heap.size < w1.heap.size := (Array.getElem?_eq_some_iff.1 HY2.out).1
  clear hW
  have HY5 := Lib.hid ((hbx.block _ (Array.getElem?_eq_some_iff.1 HY2.out).1).trans HY2.out)
  have HK6 := Lib.hid (HK3.out.below hbx)
  clear HY2 HK3
  clear hbx
  clear hfl
  refine (HN.out _ HK6.out.1).mono ?_
  rintro e w7 ⟨rfl, hk⟩
  have HY8 := Lib.hid (hk.row HY5.out (by omega))
  have HY9 := Lib.hid (hk.row HN4.out (by omega))
  have HK10 := Lib.hid (HK6.out.trans hk)
  clear HY5 HN4 HK6
  clear hk
  go_wp2_with fail
  refine (HT.out _ HK10.out.1).mono ?_
  rintro e w11 ⟨rfl, hk⟩
  have HY12 := Lib.hid (hk.row HY8.out (by omega))
  have HY13 := Lib.hid (hk.row HY9.out (by omega))
  have HK14 := Lib.hid (HK10.out.trans hk)
  clear HY8 HY9 HK10
  clear hk
  have hz_HY12 := (Array.getElem?_eq_some_iff.1 HY12.out).1
  have hz_HY13 := (Array.getElem?_eq_some_iff.1 HY13.out).1
  obtain ⟨⟨c1, c2, c3, c4, c5, c6, c7, c8, c9⟩, g1, g2, g3, g4, g5, g6, g7, g8, g9⟩ := row10 HY13.out
  go_upto_region 16 with (fail)
  obtain ⟨V15, hV⟩ : ∃ W, W = w11.setCell ⟨w1.heap.size, 1, none⟩ (.int .i64 2) := ⟨_, rfl⟩
  rw [← hV]
  have HY16 : Hid (V15.heap[w.heap.size]? = some (.cells zeq 56 (0, 0))) := by rw [hV]; exact set1_keep HY12.out (by omega) _
  have HY17 : Hid (V15.heap[w1.heap.size]? = some (.cells #[.string ⟨nm.toArray⟩, .int .i64 2, .int .i64 0, .int .i32 0, .string ⟨#[]⟩, .slice none 0 0, .int .i64 0, .int .i32 0, .string ⟨#[]⟩, .slice none 0 0] 56 (0, 0))) := by rw [hV]; exact set1_row10 HY13.out _
  have HK18 : Hid (Took w bp 66 A c ts s2.adv V15) := by rw [hV]; exact HK14.out.ours (grown_setCell _ _ _ _) HR.out (by omega)
  clear hV HY12 HY13 HK14
  clear c1 c2 c3 c4 c5 c6 c7 c8 c9 g1 g2 g3 g4 g5 g6 g7 g8 g9
  go_wp2_with fail
  have hzz19 := (Array.getElem?_eq_some_iff.1 HY16.out).1
  have hzHY17_19 := (Array.getElem?_eq_some_iff.1 HY17.out).1
  refine (HE.out _ HK18.out.1).mono ?_
  rintro e w19 ⟨Ax, cx, rfl, hat, hk⟩
  have HY20 := Lib.hid (hk.row HY16.out (by omega))
  have HY21 := Lib.hid (hk.row HY17.out (by omega))
  have HK22 := Lib.hid (HK18.out.trans hk)
  clear HY16 HY17 HK18
  have HX23 := Lib.hid (hat.base (B' := fun b => w1.heap.size < b) (fun b hb hl => Nat.lt_of_lt_of_le hzHY17_19 hb))
  clear hat hk
  unfold exAgg
  dsimp only
  obtain ⟨⟨c1, c2, c3, c4, c5, c6, c7, c8, c9⟩, g1, g2, g3, g4, g5, g6, g7, g8, g9⟩ := row10 HY21.out
  go_upto_region 17 with (fail)
  obtain ⟨V24, hV⟩ : ∃ W, W = (((w19.setCell ⟨w1.heap.size, 6, none⟩ (.int .i64 x.kind)).setCell ⟨w1.heap.size, 7, none⟩ (.int .i32 x.n)).setCell ⟨w1.heap.size, 8, none⟩ (.string ⟨x.name.toArray⟩)).setCell ⟨w1.heap.size, 9, none⟩ (.slice Ax x.sub.length cx) := ⟨_, rfl⟩
  rw [← hV]
  have HY25 : Hid (V24.heap[w.heap.size]? = some (.cells zeq 56 (0, 0))) := by rw [hV]; exact set4_keep HY20.out (by omega) _ _ _ _
  have HY26 : Hid (V24.heap[w1.heap.size]? = some (.cells #[.string ⟨nm.toArray⟩, .int .i64 2, .int .i64 0, .int .i32 0, .string ⟨#[]⟩, .slice none 0 0, .int .i64 x.kind, .int .i32 x.n, .string ⟨x.name.toArray⟩, .slice Ax x.sub.length cx] 56 (0, 0))) := by rw [hV]; exact setE_row10 HY21.out _ _ _ _
  have HX27 : Hid (At V24 (fun b => w1.heap.size < b) x Ax) := by rw [hV]; exact HX23.out.grown (grown_set4' _ _ _ _) (Nat.lt_irrefl _)
  have HK28 : Hid (Took w bp 66 A c ts s3 V24) := by rw [hV]; exact HK22.out.ours (grown_set4' _ _ _ _) HR.out (by omega)
  clear hV HY20 HY21 HX23 HK22
  clear c1 c2 c3 c4 c5 c6 c7 c8 c9 g1 g2 g3 g4 g5 g6 g7 g8 g9
  go_wp2_with fail
  refine (HM.out _ HK28.out.1).mono ?_
  rintro e w29 ⟨rfl, hk⟩
  have HY30 := Lib.hid (hk.row HY25.out (by omega))
  have HY31 := Lib.hid (hk.row HY26.out (by omega))
  have HX32 := Lib.hid (HX27.out.took hk (by omega))
  have HK33 := Lib.hid (HK28.out.trans hk)
  clear HY25 HY26 HX27 HK28
  clear hk
  go_upto_region 18 with (fail)
  go_step
  refine wpList_load_row rfl 56 (.tmp 3) rfl w1.heap.size rfl 56 (eqCells ⟨nm, 2, Ex.zero, x⟩ none 0 Ax cx).toArray (0, 0) _ HY31.out Try.underlying56 rfl infoEq ?_
  refine wpList_store_row rfl 56 (.tmp 2) (.tmp 126) rfl w.heap.size (eqCells ⟨nm, 2, Ex.zero, x⟩ none 0 Ax cx).toArray rfl rfl 56 zeq HY30.out infoEq rfl (all_oneCell_toArray (eqCells_one _ _ _ _ _)) ?_
  have hz := setRow_heap _ _ _ (eqCells ⟨nm, 2, Ex.zero, x⟩ none 0 Ax cx).toArray _ _ HY30.out
  have hX := HX32.out.grown (grown_setRow _ w.heap.size (eqCells ⟨nm, 2, Ex.zero, x⟩ none 0 Ax cx).toArray) (by omega)
  go_wp2_with fail
  exact ret_row 2 rfl rfl rfl hz Try.underlying56 infoEq ⟨_, _, _, _, rfl, at_zero _ _ _, hX.base (fun b hb _ => by omega), HK33.out.setRow HR.out (Nat.le_refl _) _⟩
set_option maxRecDepth 100000 in
set_option maxHeartbeats 16000000 in
theorem req_bad (bp : Nat) (A : Option Addr) (c : Nat) (ts : List Lx.Tok) (s : St) (h1 : sees ts (Tr.need ts (Tr.name ts s).2 [61]) wPre = false) (hb : (Tr.need ts (Tr.name ts s).2 [61]).bad = true) (w : World) (h : RowAt w bp 66 A c ts s) :
    Calls Try.prog 42 #[.pointer (some ⟨bp, 0, none⟩)] w (rEqPost w bp A c ts (⟨(Tr.name ts s).1, 0, Ex.zero, (P ts .expr (Tr.need ts (Tr.name ts s).2 [61])).1⟩, Tr.need ts (P ts .expr (Tr.need ts (Tr.name ts s).2 [61])).2 [59])) := by
  have HR := Lib.hid h
  have hbw := h.lt
  have hlen0 := h.len
  have HW0 : Hid (∀ V, Below w.heap.size w (w.alloc V)) := fun V => (Below.refl _ _).alloc (Nat.le_refl _) V
  clear h
  have HC := Lib.hid (fun W h => rkind_any bp A c ts s 1 W h)
  unfold tokAgg at HC
  unfold Tr.name at *
  generalize token ts s 1 = tk at *
  obtain ⟨⟨kd, nm, nn, pl⟩, s1⟩ := tk
  dsimp only at *
  have HN := Lib.hid (fun W h => rneed_any bp A c ts s1 [61] W h)
  generalize Tr.need ts s1 [61] = s2 at *
  have hfl := fun W => field_text W kd nn pl nm

  have HT := Lib.hid (fun W h => rtake_any bp A c ts s2 wPre W h)
  rw [h1, if_neg (by decide)] at HT
  unfold wPre at HT
  clear h1
  have HE := Lib.hid (fun W h => rpexpr bp A c ts s2 W h)
  generalize P ts .expr s2 = q at *
  obtain ⟨x, s3⟩ := q
  dsimp only at *
  have HM := Lib.hid (fun W h => rneed_any bp A c ts s3 [59] W h)
  generalize Tr.need ts s3 [59] = s4 at *
  go_enter Try.func42, Try.ntmps42
  go_wp2_with fail
  obtain ⟨W0, hW0⟩ : ∃ W0, W0 = w.alloc (.cells zeq 56) := ⟨_, rfl⟩
  unfold zeq at hW0
  rw [← hW0]
  have HB0 : Hid (Below w.heap.size w W0) := by rw [hW0]; exact HW0.out _
  have HZ0 : Hid (W0.heap[w.heap.size]? = some (.cells zeq 56 (0, 0))) := by rw [hW0]; exact heap_alloc_new _ _
  have HK0 : Hid (Took w bp 66 A c ts s W0) := (took_refl HR.out).below HB0.out
  clear hW0
  refine (HC.out _ HK0.out.1).mono ?_
  rintro e w1 ⟨rfl, hk⟩
  have HY2 := Lib.hid (hk.row HZ0.out (by omega))
  have HK3 := Lib.hid (HK0.out.trans hk)
  clear HZ0 HK0
  clear hk
  go_wp2_with fail
  have hz_HY2 := (Array.getElem?_eq_some_iff.1 HY2.out).1
  obtain ⟨W4, hW⟩ : ∃ W, W = w1.alloc (.cells #[.string ⟨nm.toArray⟩, .int .i64 0, .int .i64 0, .int .i32 0, .string ⟨#[]⟩, .slice none 0 0, .int .i64 0, .int .i32 0, .string ⟨#[]⟩, .slice none 0 0] 56) := ⟨_, rfl⟩
  rw [← hW]
  have hbx : Below w1.heap.size w1 W4 := by rw [hW]; exact (Below.refl _ _).alloc (Nat.le_refl _) _
  have HN4 : Hid (W4.heap[w1.heap.size]? = some (.cells #[.string ⟨nm.toArray⟩, .int .i64 0, .int .i64 0, .int .i32 0, .string ⟨#[]⟩, .slice none 0 0, .int .i64 0, .int .i32 0, .string ⟨#[]⟩, .slice none 0 0] 56 (0, 0))) := by rw [hW]; exact heap_alloc_new _ _
  have hlo4 : w.heap.size < w1.heap.size := (Array.getElem?_eq_some_iff.1 HY2.out).1
  clear hW
  have HY5 := Lib.hid ((hbx.block _ (Array.getElem?_eq_some_iff.1 HY2.out).1).trans HY2.out)
  have HK6 := Lib.hid (HK3.out.below hbx)
  clear HY2 HK3
  clear hbx
  clear hfl
  refine (HN.out _ HK6.out.1).mono ?_
  rintro e w7 ⟨rfl, hk⟩
  have HY8 := Lib.hid (hk.row HY5.out (by omega))
  have HY9 := Lib.hid (hk.row HN4.out (by omega))
  have HK10 := Lib.hid (HK6.out.trans hk)
  clear HY5 HN4 HK6
  clear hk
  go_wp2_with fail
  refine (HT.out _ HK10.out.1).mono ?_
  rintro e w11 ⟨rfl, hk⟩
  have HY12 := Lib.hid (hk.row HY8.out (by omega))
  have HY13 := Lib.hid (hk.row HY9.out (by omega))
  have HK14 := Lib.hid (HK10.out.trans hk)
  clear HY8 HY9 HK10
  clear hk
  obtain ⟨q0, q1, q2, q3, q4, q5⟩ := row6 HK14.out.1
  rw [hb] at q2
  clear hb
  go_wp2_with fail
  clear q0 q1 q2 q3 q4 q5
  have hz_HY12 := (Array.getElem?_eq_some_iff.1 HY12.out).1
  have hz_HY13 := (Array.getElem?_eq_some_iff.1 HY13.out).1
  have hzz15 := (Array.getElem?_eq_some_iff.1 HY12.out).1
  have hzHY13_15 := (Array.getElem?_eq_some_iff.1 HY13.out).1
  refine (HE.out _ HK14.out.1).mono ?_
  rintro e w15 ⟨Ax, cx, rfl, hat, hk⟩
  have HY16 := Lib.hid (hk.row HY12.out (by omega))
  have HY17 := Lib.hid (hk.row HY13.out (by omega))
  have HK18 := Lib.hid (HK14.out.trans hk)
  clear HY12 HY13 HK14
  have HX19 := Lib.hid (hat.base (B' := fun b => w1.heap.size < b) (fun b hb hl => Nat.lt_of_lt_of_le hzHY13_15 hb))
  clear hat hk
  unfold exAgg
  dsimp only
  obtain ⟨⟨c1, c2, c3, c4, c5, c6, c7, c8, c9⟩, g1, g2, g3, g4, g5, g6, g7, g8, g9⟩ := row10 HY17.out
  go_upto_region 17 with (fail)
  obtain ⟨V20, hV⟩ : ∃ W, W = (((w15.setCell ⟨w1.heap.size, 6, none⟩ (.int .i64 x.kind)).setCell ⟨w1.heap.size, 7, none⟩ (.int .i32 x.n)).setCell ⟨w1.heap.size, 8, none⟩ (.string ⟨x.name.toArray⟩)).setCell ⟨w1.heap.size, 9, none⟩ (.slice Ax x.sub.length cx) := ⟨_, rfl⟩
  rw [← hV]
  have HY21 : Hid (V20.heap[w.heap.size]? = some (.cells zeq 56 (0, 0))) := by rw [hV]; exact set4_keep HY16.out (by omega) _ _ _ _
  have HY22 : Hid (V20.heap[w1.heap.size]? = some (.cells #[.string ⟨nm.toArray⟩, .int .i64 0, .int .i64 0, .int .i32 0, .string ⟨#[]⟩, .slice none 0 0, .int .i64 x.kind, .int .i32 x.n, .string ⟨x.name.toArray⟩, .slice Ax x.sub.length cx] 56 (0, 0))) := by rw [hV]; exact setE_row10 HY17.out _ _ _ _
  have HX23 : Hid (At V20 (fun b => w1.heap.size < b) x Ax) := by rw [hV]; exact HX19.out.grown (grown_set4' _ _ _ _) (Nat.lt_irrefl _)
  have HK24 : Hid (Took w bp 66 A c ts s3 V20) := by rw [hV]; exact HK18.out.ours (grown_set4' _ _ _ _) HR.out (by omega)
  clear hV HY16 HY17 HX19 HK18
  clear c1 c2 c3 c4 c5 c6 c7 c8 c9 g1 g2 g3 g4 g5 g6 g7 g8 g9
  go_wp2_with fail
  refine (HM.out _ HK24.out.1).mono ?_
  rintro e w25 ⟨rfl, hk⟩
  have HY26 := Lib.hid (hk.row HY21.out (by omega))
  have HY27 := Lib.hid (hk.row HY22.out (by omega))
  have HX28 := Lib.hid (HX23.out.took hk (by omega))
  have HK29 := Lib.hid (HK24.out.trans hk)
  clear HY21 HY22 HX23 HK24
  clear hk
  go_upto_region 18 with (fail)
  go_step
  refine wpList_load_row rfl 56 (.tmp 3) rfl w1.heap.size rfl 56 (eqCells ⟨nm, 0, Ex.zero, x⟩ none 0 Ax cx).toArray (0, 0) _ HY27.out Try.underlying56 rfl infoEq ?_
  refine wpList_store_row rfl 56 (.tmp 2) (.tmp 126) rfl w.heap.size (eqCells ⟨nm, 0, Ex.zero, x⟩ none 0 Ax cx).toArray rfl rfl 56 zeq HY26.out infoEq rfl (all_oneCell_toArray (eqCells_one _ _ _ _ _)) ?_
  have hz := setRow_heap _ _ _ (eqCells ⟨nm, 0, Ex.zero, x⟩ none 0 Ax cx).toArray _ _ HY26.out
  have hX := HX28.out.grown (grown_setRow _ w.heap.size (eqCells ⟨nm, 0, Ex.zero, x⟩ none 0 Ax cx).toArray) (by omega)
  go_wp2_with fail
  exact ret_row 2 rfl rfl rfl hz Try.underlying56 infoEq ⟨_, _, _, _, rfl, at_zero _ _ _, hX.base (fun b hb _ => by omega), HK29.out.setRow HR.out (Nat.le_refl _) _⟩
end Go.Proofs.Ytilkilffkjhhbaa
