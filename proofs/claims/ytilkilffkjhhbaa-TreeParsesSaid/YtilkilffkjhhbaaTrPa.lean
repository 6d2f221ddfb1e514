/-
  A row of tokens in memory; the functions next, sees, take, need, token, name and where.
  The functions token, name, any and where of a row of tokens.
  The function any: which of some marks stands next.
  What the parser's rules give back; the rule unary.
-/
import Derived.Test.YtilkilffkjhhbaaTrMem
import Derived.Test.YtilkilffkjhhbaaTrPl
import Derived.Test.YtilkilffkjhhbaaTrX
import Derived.Test.YtilkilffkjhhbaaBytes
import Derived.Test.YtilkilffkjhhbaaCells
import Derived.StillTailTactics
import Derived.Test.YtilkilffkjhhbaaTrF
import Derived.Deep.RegionHeld3
namespace Go.Proofs.Ytilkilffkjhhbaa
set_option maxRecDepth 20000
set_option linter.unusedVariables false
open Go.RowKit Tr Mem

structure RowAt (w : World) (bp : Nat) (ty : TypeId) (A : Option Addr) (c : Nat) (ts : List Lx.Tok) (s : St) : Prop where
  row : w.heap[bp]? = some (.cells #[.slice A ts.length c, .int .i64 (s.at_ : Int), .bool s.bad] ty (0, 0))
  toks : TokAt w A ts
  ne : ∀ b o p, A = some ⟨b, o, p⟩ → b ≠ bp
  le : s.at_ ≤ ts.length
  len : ts.length ≤ 4096
theorem RowAt.lt {w : World} {bp : Nat} {ty : TypeId} {A : Option Addr} {c : Nat} {ts : List Lx.Tok} {s : St} (h : RowAt w bp ty A c ts s) : bp < w.heap.size := (Array.getElem?_eq_some_iff.1 h.row).1
theorem RowAt.below {w w' : World} {bp : Nat} {ty : TypeId} {A : Option Addr} {c : Nat} {ts : List Lx.Tok} {s : St} (h : RowAt w bp ty A c ts s) {B : Nat} (hb : Below B w w') (hB : w.heap.size ≤ B) : RowAt w' bp ty A c ts s :=
  ⟨(hb.block _ (Nat.lt_of_lt_of_le h.lt hB)).trans h.row, h.toks.below hb (.inl hB), h.ne, h.le, h.len⟩
theorem RowAt.cells {w : World} {bp : Nat} {ty : TypeId} {A : Option Addr} {c : Nat} {ts : List Lx.Tok} {s : St} (h : RowAt w bp ty A c ts s) :
    w.cell? ⟨bp, 0, none⟩ = some (.slice A ts.length c) ∧ w.cell? ⟨bp, 1, none⟩ = some (.int .i64 (s.at_ : Int)) ∧ w.cell? ⟨bp, 2, none⟩ = some (.bool s.bad) ∧ w.frozen? ⟨bp, 1, none⟩ = false ∧ w.frozen? ⟨bp, 2, none⟩ = false :=
  ⟨cell_of_row w bp 0 _ _ _ h.row, cell_of_row w bp 1 _ _ _ h.row, cell_of_row w bp 2 _ _ _ h.row, frozen_of_row w bp 1 _ _ h.row, frozen_of_row w bp 2 _ _ h.row⟩
theorem RowAt.old {w : World} {bp : Nat} {ty : TypeId} {A : Option Addr} {c : Nat} {ts : List Lx.Tok} {s : St} (h : RowAt w bp ty A c ts s) : ts ≠ [] → ∀ b o p, A = some ⟨b, o, p⟩ → b < w.heap.size := by
  intro hne b o p e
  have h0 : 0 < ts.length := List.length_pos_iff.2 hne
  obtain ⟨b', off, e', c0, _⟩ := h.toks 0 h0
  rw [e] at e'
  injection e' with e'
  injection e' with e1
  have := World.block_lt_of_cell? _ _ c0
  simp only at this
  omega
theorem toks_other {w w' : World} {A : Option Addr} {ts : List Lx.Tok} {g : Nat} (h : TokAt w A ts) (hg : w.grownBy w' (some g)) (hne : ts ≠ [] → ∀ b o p, A = some ⟨b, o, p⟩ → b ≠ g) : TokAt w' A ts := by
  intro k hk
  obtain ⟨b, off, rfl, h0, h1, h2, h3⟩ := h k hk
  have hn : some b ≠ some g := fun e => hne (List.length_pos_iff.1 (by omega)) b off none rfl (by injection e)
  exact ⟨b, off, rfl, hg.cell h0 hn, hg.cell h1 hn, hg.cell h2 hn, hg.cell h3 hn⟩
/-- the place is another one -/
theorem RowAt.setAt {w : World} {bp : Nat} {ty : TypeId} {A : Option Addr} {c : Nat} {ts : List Lx.Tok} {s : St} (h : RowAt w bp ty A c ts s) (hlt : s.at_ < ts.length) : RowAt (w.setCell ⟨bp, 1, none⟩ (.int .i64 ((s.at_ : Int) + 1))) bp ty A c ts s.adv := by
  refine ⟨?_, toks_other h.toks (grown_setCell w bp 1 _) (fun _ => h.ne), h.ne, by rw [adv_at]; omega, h.len⟩
  rw [heap_setCell_same w bp 1 _ _ _ h.row]
  rfl
theorem RowAt.setBad {w : World} {bp : Nat} {ty : TypeId} {A : Option Addr} {c : Nat} {ts : List Lx.Tok} {s : St} (h : RowAt w bp ty A c ts s) : RowAt (w.setCell ⟨bp, 2, none⟩ (.bool true)) bp ty A c ts s.fail := by
  refine ⟨?_, toks_other h.toks (grown_setCell w bp 2 _) (fun _ => h.ne), h.ne, h.le, h.len⟩
  rw [heap_setCell_same w bp 2 _ _ _ h.row]
  rfl
theorem RowAt.grow {w w' : World} {bp g : Nat} {ty : TypeId} {A : Option Addr} {c : Nat} {ts : List Lx.Tok} {s : St} (h : RowAt w bp ty A c ts s) (hg : w.grownBy w' (some g)) (hb : bp ≠ g) (hA : ts ≠ [] → ∀ b o p, A = some ⟨b, o, p⟩ → b ≠ g) : RowAt w' bp ty A c ts s :=
  ⟨(hg.block _ h.lt (fun e => hb (by injection e))).trans h.row, toks_other h.toks hg hA, h.ne, h.le, h.len⟩
def has (ts : List Lx.Tok) (s : St) : Bool := !s.bad && decide (s.at_ < ts.length)
def zeroTok : Lx.Tok := ⟨0, [], 0, 0⟩
def cur (ts : List Lx.Tok) (s : St) : Lx.Tok := if has ts s then ts.getD s.at_ zeroTok else zeroTok
theorem has_yes {ts : List Lx.Tok} {s : St} (h1 : s.bad = false) (h2 : s.at_ < ts.length) : has ts s = true := by simp [has, h1, h2]
theorem cur_yes {ts : List Lx.Tok} {s : St} (h1 : s.bad = false) (h2 : s.at_ < ts.length) : cur ts s = ts[s.at_]'h2 := by
  unfold cur
  rw [has_yes h1 h2, if_pos rfl]
  simp [h2]
theorem has_no {ts : List Lx.Tok} {s : St} (h : s.bad = true ∨ ts.length ≤ s.at_) : has ts s = false := by
  rcases h with h | h
  · simp [has, h]
  · unfold has
    rw [decide_eq_false (by omega), Bool.and_false]
theorem cur_no {ts : List Lx.Tok} {s : St} (h : has ts s = false) : cur ts s = zeroTok := by unfold cur; rw [h]; rfl
theorem sees_cur (ts : List Lx.Tok) (s : St) (m : Lx.Bs) : sees ts s m = (has ts s && ((cur ts s).kind == 3 || (cur ts s).kind == 4) && (cur ts s).text == m) := by
  unfold sees
  rcases hb : s.bad with _ | _
  · by_cases hlt : s.at_ < ts.length
    · rw [has_yes hb hlt, cur_yes hb hlt, List.getElem?_eq_getElem hlt]; rfl
    · rw [has_no (.inr (by omega)), List.getElem?_eq_none (by omega)]; rfl
  · rw [has_no (.inl hb)]; rfl
theorem isKind_cur (ts : List Lx.Tok) (s : St) (k : Int) : isKind ts s k = (has ts s && (cur ts s).kind == k) := by
  unfold isKind
  rcases hb : s.bad with _ | _
  · by_cases hlt : s.at_ < ts.length
    · rw [has_yes hb hlt, cur_yes hb hlt, List.getElem?_eq_getElem hlt]; rfl
    · rw [has_no (.inr (by omega)), List.getElem?_eq_none (by omega)]; rfl
  · rw [has_no (.inl hb)]; rfl
theorem tok_cur {ts : List Lx.Tok} {s : St} (h : has ts s = true) : Tr.tok ts s = cur ts s := by
  unfold cur Tr.tok
  rw [h]; rfl
theorem row4 {W : World} {g : Nat} {a b c d : Value} {t : TypeId} (h : W.heap[g]? = some (.cells #[a, b, c, d] t (0, 0))) :
    W.cell? ⟨g, 0, none⟩ = some a ∧ W.cell? ⟨g, 1, none⟩ = some b ∧ W.cell? ⟨g, 2, none⟩ = some c ∧ W.cell? ⟨g, 3, none⟩ = some d ∧ W.frozen? ⟨g, 0, none⟩ = false ∧ W.frozen? ⟨g, 1, none⟩ = false ∧ W.frozen? ⟨g, 2, none⟩ = false ∧ W.frozen? ⟨g, 3, none⟩ = false :=
  ⟨cell_of_row W g 0 _ _ _ h, cell_of_row W g 1 _ _ _ h, cell_of_row W g 2 _ _ _ h, cell_of_row W g 3 _ _ _ h, frozen_of_row W g 0 _ _ h, frozen_of_row W g 1 _ _ h, frozen_of_row W g 2 _ _ h, frozen_of_row W g 3 _ _ h⟩
theorem setrow4 {W : World} {g : Nat} {a b c d : Value} {t : TypeId} (h : W.heap[g]? = some (.cells #[a, b, c, d] t (0, 0))) (x0 x1 x2 x3 : Value) :
    ((((W.setCell ⟨g, 0, none⟩ x0).setCell ⟨g, 1, none⟩ x1).setCell ⟨g, 2, none⟩ x2).setCell ⟨g, 3, none⟩ x3).heap[g]? = some (.cells #[x0, x1, x2, x3] t (0, 0)) := by
  rw [heap_setCell_same _ g 3 _ _ _ (heap_setCell_same _ g 2 _ _ _ (heap_setCell_same _ g 1 _ _ _ (heap_setCell_same _ g 0 _ _ _ h)))]
  rfl
theorem below_set4 {B : Nat} {w W : World} {g : Nat} (h : Below B w W) (hg : B ≤ g) (x0 x1 x2 x3 : Value) : Below B w ((((W.setCell ⟨g, 0, none⟩ x0).setCell ⟨g, 1, none⟩ x1).setCell ⟨g, 2, none⟩ x2).setCell ⟨g, 3, none⟩ x3) :=
  (((h.setCell hg _).setCell hg _).setCell hg _).setCell hg _
theorem ret_row {fn : Func} {R : Ending → World → Prop} {a : Act} {W : World} {g : Nat} {cs : Array Value} {ty t : TypeId} {fs : Array Field} (p : Nat) (hr : fn.results = #[.cell p ty])
    (h2 : a.tmps.getD p undef = .pointer (some ⟨g, 0, none⟩)) (hd : a.defers = []) (hg : W.heap[g]? = some (.cells cs t (0, 0)))
    (hu : Try.prog.underlying ty = some (.struct fs)) (hi : (Try.prog.info? ty).map (·.size) = some cs.size)
    (hR : R (.returned (.agg cs)) W) : bodyPost Try.prog fn R .ret a W :=
  bodyPost_ret (results_cell_row (P := Try.prog) hr _ _ g _ cs _ _ h2 hg hu rfl hi) hd hR
theorem ret_row_tmp {fn : Func} {R : Ending → World → Prop} {a : Act} {W : World} {g : Nat} {cs : Array Value} {v : Value} {ty t : TypeId} {fs : Array Field} (p u : Nat) (hr : fn.results = #[.cell p ty, .tmp u])
    (h2 : a.tmps.getD p undef = .pointer (some ⟨g, 0, none⟩)) (h3 : a.tmps.getD u undef = v) (hd : a.defers = []) (hg : W.heap[g]? = some (.cells cs t (0, 0)))
    (hu : Try.prog.underlying ty = some (.struct fs)) (hi : (Try.prog.info? ty).map (·.size) = some cs.size)
    (hR : R (.returned (.tuple #[.agg cs, v])) W) : bodyPost Try.prog fn R .ret a W :=
  bodyPost_ret (results_row_tmp (P := Try.prog) hr _ _ g _ cs _ _ _ h2 hg hu rfl hi h3) hd hR
theorem infoTokS : (Try.prog.info? 40).map (·.size) = some 4 := by kernel_rfl
theorem infoExS : (Try.prog.info? 43).map (·.size) = some 4 := by kernel_rfl
set_option maxHeartbeats 4000000 in
theorem next_any (bp : Nat) (A : Option Addr) (c : Nat) (ts : List Lx.Tok) (s : St) (w : World) (h : RowAt w bp 61 A c ts s) :
    Calls Try.prog 99 #[.pointer (some ⟨bp, 0, none⟩)] w fun e w' => e = .returned (.tuple #[tokAgg (cur ts s), .bool (has ts s)]) ∧ Below w.heap.size w w' := by
  have HR := Lib.hid h
  have hle := h.le
  have hlen := h.len
  clear h
  rcases hb : s.bad with _ | _
  rotate_left
  · rw [cur_no (has_no (.inl hb)), has_no (.inl hb)]
    unfold tokAgg zeroTok
    dsimp only
    have hp := HR.out.row
    rw [hb] at hp
    clear hb
    have HP := Lib.hid hp
    clear hp
    go_enter Try.func99, Try.ntmps99
    go_wp2_with fail
    obtain ⟨W0, hW0⟩ : ∃ W0, W0 = w.alloc (.cells #[.int .i64 0, .string ⟨#[]⟩, .int .i32 0, .int .i64 0] 40) := ⟨_, rfl⟩
    rw [← hW0]
    have hB : Below w.heap.size w W0 := by rw [hW0]; exact (Below.refl _ _).alloc (Nat.le_refl _) _
    have hz : W0.heap[w.heap.size]? = some (.cells #[.int .i64 0, .string ⟨#[]⟩, .int .i32 0, .int .i64 0] 40 (0, 0)) := by rw [hW0]; exact heap_alloc_new _ _
    have hp0 := (hB.block _ HR.out.lt).trans HP.out
    have c2 := cell_of_row W0 bp 2 _ _ _ hp0
    simp only [List.getElem?_toArray] at c2
    have HZ := Lib.hid hz
    have HB := Lib.hid hB
    clear hW0 hB hz hp0
    go_quiet (fail)
    obtain ⟨k0, k1, k2, k3, f0, f1, f2, f3⟩ := row4 HZ.out
    go_wp2_with fail
    refine ret_row_tmp 2 3 rfl rfl rfl rfl (setrow4 (W := W0.drewN _) HZ.out _ _ _ _) Try.underlying40 infoTokS ⟨rfl, below_set4 (below_drewN HB.out _) (Nat.le_refl _) _ _ _ _⟩
  · have hp := HR.out.row
    rw [hb] at hp
    have HP := Lib.hid hp
    by_cases hlt : s.at_ < ts.length
    · rw [cur_yes hb hlt, has_yes hb hlt]
      obtain ⟨b, off, rfl, t0, t1, t2, t3⟩ := HR.out.toks s.at_ hlt
      have hbl := World.block_lt_of_cell? _ _ t0
      simp only at hbl
      have r0 : (0 : Int) ≤ (s.at_ : Int) := by omega
      have r1 : (s.at_ : Int) < (ts.length : Int) := by omega
      generalize ts[s.at_]'hlt = t at *
      clear hb hp
      unfold tokAgg
      go_enter Try.func99, Try.ntmps99
      go_wp2_with fail
      obtain ⟨W0, hW0⟩ : ∃ W0, W0 = w.alloc (.cells #[.int .i64 0, .string ⟨#[]⟩, .int .i32 0, .int .i64 0] 40) := ⟨_, rfl⟩
      rw [← hW0]
      have hB : Below w.heap.size w W0 := by rw [hW0]; exact (Below.refl _ _).alloc (Nat.le_refl _) _
      have hz : W0.heap[w.heap.size]? = some (.cells #[.int .i64 0, .string ⟨#[]⟩, .int .i32 0, .int .i64 0] 40 (0, 0)) := by rw [hW0]; exact heap_alloc_new _ _
      have hp0 := (hB.block _ HR.out.lt).trans HP.out
      have c0 := cell_of_row W0 bp 0 _ _ _ hp0
      have c1 := cell_of_row W0 bp 1 _ _ _ hp0
      have c2 := cell_of_row W0 bp 2 _ _ _ hp0
      simp only [List.getElem?_toArray] at c0 c1 c2
      have HZ := Lib.hid hz
      have HB := Lib.hid hB
      have t0' := (hB.cell (p := ⟨b, off + s.at_ * 4, none⟩) hbl).trans t0
      have t1' := (hB.cell (p := ⟨b, off + s.at_ * 4 + 1, none⟩) hbl).trans t1
      have t2' := (hB.cell (p := ⟨b, off + s.at_ * 4 + 2, none⟩) hbl).trans t2
      have t3' := (hB.cell (p := ⟨b, off + s.at_ * 4 + 3, none⟩) hbl).trans t3
      have HP0 := Lib.hid hp0
      have HT := Lib.hid (And.intro t0' (And.intro t1' (And.intro t2' t3')))
      clear hW0 hB hz hp0 t0 t1 t2 t3 t0' t1' t2' t3'
      go_quiet (fail)
      go_wp2_with fail
      clear c0 c1 c2
      generalize hW1 : W0.drewN nq = W1
      have HB1 : Hid (Below w.heap.size w W1) := by rw [← hW1]; exact below_drewN HB.out nq
      have HZ1 : Hid (W1.heap[w.heap.size]? = some (.cells #[.int .i64 0, .string ⟨#[]⟩, .int .i32 0, .int .i64 0] 40 (0, 0))) := by rw [← hW1]; exact HZ.out
      have hp1 : W1.heap[bp]? = some (.cells #[.slice (some ⟨b, off, none⟩) ts.length c, .int .i64 (s.at_ : Int), .bool false] 61 (0, 0)) := by rw [← hW1]; exact HP0.out
      obtain ⟨t0, t1, t2, t3⟩ : W1.cell? ⟨b, off + s.at_ * 4, none⟩ = some (.int .i64 t.kind) ∧ W1.cell? ⟨b, off + s.at_ * 4 + 1, none⟩ = some (.string ⟨t.text.toArray⟩) ∧ W1.cell? ⟨b, off + s.at_ * 4 + 2, none⟩ = some (.int .i32 t.n) ∧ W1.cell? ⟨b, off + s.at_ * 4 + 3, none⟩ = some (.int .i64 t.at_) := by rw [← hW1]; exact HT.out
      have c0 := cell_of_row W1 bp 0 _ _ _ hp1
      have c1 := cell_of_row W1 bp 1 _ _ _ hp1
      have c2 := cell_of_row W1 bp 2 _ _ _ hp1
      simp only [List.getElem?_toArray] at c0 c1 c2
      clear hW1 hp1 HT HP0 HB HZ
      go_still_tail 10, (by kernel_rfl)
      obtain ⟨k0, k1, k2, k3, f0, f1, f2, f3⟩ := row4 HZ1.out
      go_wp2_with fail
      refine ret_row_tmp 2 3 rfl rfl rfl rfl (setrow4 (W := _) HZ1.out _ _ _ _) Try.underlying40 infoTokS ⟨rfl, below_set4 HB1.out.drew (Nat.le_refl _) _ _ _ _⟩
    · rw [cur_no (has_no (.inr (by omega))), has_no (.inr (by omega))]
      unfold tokAgg zeroTok
      dsimp only
      have r1 : ¬ (s.at_ : Int) < (ts.length : Int) := by omega
      clear hb hp
      go_enter Try.func99, Try.ntmps99
      go_wp2_with fail
      obtain ⟨W0, hW0⟩ : ∃ W0, W0 = w.alloc (.cells #[.int .i64 0, .string ⟨#[]⟩, .int .i32 0, .int .i64 0] 40) := ⟨_, rfl⟩
      rw [← hW0]
      have hB : Below w.heap.size w W0 := by rw [hW0]; exact (Below.refl _ _).alloc (Nat.le_refl _) _
      have hz : W0.heap[w.heap.size]? = some (.cells #[.int .i64 0, .string ⟨#[]⟩, .int .i32 0, .int .i64 0] 40 (0, 0)) := by rw [hW0]; exact heap_alloc_new _ _
      have hp0 := (hB.block _ HR.out.lt).trans HP.out
      have c0 := cell_of_row W0 bp 0 _ _ _ hp0
      have c1 := cell_of_row W0 bp 1 _ _ _ hp0
      have c2 := cell_of_row W0 bp 2 _ _ _ hp0
      simp only [List.getElem?_toArray] at c0 c1 c2
      have HZ := Lib.hid hz
      have HB := Lib.hid hB
      clear hW0 hB hz hp0
      go_quiet (fail)
      obtain ⟨k0, k1, k2, k3, f0, f1, f2, f3⟩ := row4 HZ.out
      go_wp2_with fail
      refine ret_row_tmp 2 3 rfl rfl rfl rfl (setrow4 (W := W0.drewN _) HZ.out _ _ _ _) Try.underlying40 infoTokS ⟨rfl, below_set4 (below_drewN HB.out _) (Nat.le_refl _) _ _ _ _⟩
set_option maxHeartbeats 4000000 in
theorem sees_any (bp : Nat) (A : Option Addr) (c : Nat) (ts : List Lx.Tok) (s : St) (m : Lx.Bs) (w : World) (h : RowAt w bp 61 A c ts s) :
    Calls Try.prog 67 #[.pointer (some ⟨bp, 0, none⟩), .string ⟨m.toArray⟩] w fun e w' => e = .returned (.bool (sees ts s m)) ∧ Below w.heap.size w w' := by
  have HN := Lib.hid (next_any bp A c ts s w h)
  rw [sees_cur]
  clear h
  generalize has ts s = hh at *
  generalize cur ts s = t at *
  obtain ⟨k, tx, n, pl⟩ := t
  unfold tokAgg at *
  dsimp only at *
  cases hh
  · go_enter Try.func67, Try.ntmps67
    go_wp2_with fail
    refine HN.out.mono ?_
    rintro e w1 ⟨rfl, hb1⟩
    have HB := Lib.hid (hb1.alloc hb1.size (.cells #[.int .i64 k, .string ⟨tx.toArray⟩, .int .i32 n, .int .i64 pl] 40))
    clear hb1
    go_wp2_with fail
    go_ret
    exact ⟨rfl, HB.out⟩
  · rw [Bool.true_and]
    rcases h3 : (k == 3) with _ | _
    all_goals rcases h4 : (k == 4) with _ | _
    all_goals rcases hm : (tx == m) with _ | _
    all_goals first | (exfalso; simp at h3 h4; omega) | skip
    all_goals
      go_enter Try.func67, Try.ntmps67
      go_wp2_with fail
      refine HN.out.mono ?_
      rintro e w1 ⟨rfl, hb1⟩
      have HB := Lib.hid (hb1.alloc hb1.size (.cells #[.int .i64 k, .string ⟨tx.toArray⟩, .int .i32 n, .int .i64 pl] 40))
      clear hb1
      go_wp2_with fail
      go_ret
      exact ⟨rfl, HB.out⟩
/-- behind a call that may write the row: the row, and what was there -/
def Took (w : World) (bp : Nat) (ty : TypeId) (A : Option Addr) (c : Nat) (ts : List Lx.Tok) (s' : St) (w' : World) : Prop := RowAt w' bp ty A c ts s' ∧ w.grownBy w' (some bp)
set_option maxHeartbeats 4000000 in
theorem take_any (bp : Nat) (A : Option Addr) (c : Nat) (ts : List Lx.Tok) (s : St) (m : Lx.Bs) (w : World) (h : RowAt w bp 61 A c ts s) :
    Calls Try.prog 32 #[.pointer (some ⟨bp, 0, none⟩), .string ⟨m.toArray⟩] w fun e w' => e = .returned (.bool (sees ts s m)) ∧ Took w bp 61 A c ts (if sees ts s m = true then s.adv else s) w' := by
  have HS := Lib.hid (sees_any bp A c ts s m w h)
  have HR := Lib.hid h
  have hle := h.le
  have hlen := h.len
  clear h
  rcases hq : sees ts s m with _ | _
  · rw [if_neg (by decide)]
    rw [hq] at HS
    clear hq
    go_enter Try.func32, Try.ntmps32
    go_wp2_with fail
    refine HS.out.mono ?_
    rintro e w1 ⟨rfl, hb1⟩
    have HB := Lib.hid hb1
    clear hb1
    go_wp2_with fail
    go_ret
    exact ⟨rfl, HR.out.below HB.out (Nat.le_refl _), grown_of_below HB.out _⟩
  · have HL := Lib.hid (sees_lt hq)
    rw [if_pos rfl]
    rw [hq] at HS
    clear hq
    go_enter Try.func32, Try.ntmps32
    go_wp2_with fail
    refine HS.out.mono ?_
    rintro e w1 ⟨rfl, hb1⟩
    have HB := Lib.hid hb1
    have HR1 := Lib.hid (HR.out.below hb1 (Nat.le_refl _))
    obtain ⟨c0, c1, c2, f1, f2⟩ := HR1.out.cells
    clear hb1
    go_wp2_with fail
    go_ret
    exact ⟨rfl, HR1.out.setAt HL.out.2, World.grownBy.trans (grown_of_below HB.out _) (grown_setCell _ _ _ _)⟩
set_option maxHeartbeats 4000000 in
theorem need_any (bp : Nat) (A : Option Addr) (c : Nat) (ts : List Lx.Tok) (s : St) (m : Lx.Bs) (w : World) (h : RowAt w bp 61 A c ts s) :
    Calls Try.prog 63 #[.pointer (some ⟨bp, 0, none⟩), .string ⟨m.toArray⟩] w fun e w' => e = .returned (.tuple #[]) ∧ Took w bp 61 A c ts (need ts s m) w' := by
  have HS := Lib.hid (take_any bp A c ts s m w h)
  clear h
  unfold need
  rcases hq : sees ts s m with _ | _
  · rw [if_neg (by decide)]
    rw [hq, if_neg (by decide)] at HS
    clear hq
    go_enter Try.func63, Try.ntmps63
    go_wp2_with fail
    refine HS.out.mono ?_
    rintro e w1 ⟨rfl, hr1, hg1⟩
    have HR1 := Lib.hid hr1
    have HG1 := Lib.hid hg1
    obtain ⟨c0, c1, c2, f1, f2⟩ := HR1.out.cells
    clear hr1 hg1
    go_wp2_with fail
    go_end0
    exact ⟨rfl, HR1.out.setBad, World.grownBy.trans HG1.out (grown_setCell _ _ _ _)⟩
  · rw [if_pos rfl]
    rw [hq, if_pos rfl] at HS
    clear hq
    go_enter Try.func63, Try.ntmps63
    go_wp2_with fail
    refine HS.out.mono ?_
    rintro e w1 ⟨rfl, hr1, hg1⟩
    have HR1 := Lib.hid hr1
    have HG1 := Lib.hid hg1
    clear hr1 hg1
    go_wp2_with fail
    go_end0
    exact ⟨rfl, HR1.out, HG1.out⟩
end Go.Proofs.Ytilkilffkjhhbaa
namespace Go.Proofs.Ytilkilffkjhhbaa
set_option maxRecDepth 20000
set_option linter.unusedVariables false
open Go.RowKit Tr Mem

theorem grown_set4 {W : World} {bp g : Nat} (hg : W.heap.size ≤ g ∨ True) (x0 x1 x2 x3 : Value) : W.grownBy ((((W.setCell ⟨g, 0, none⟩ x0).setCell ⟨g, 1, none⟩ x1).setCell ⟨g, 2, none⟩ x2).setCell ⟨g, 3, none⟩ x3) (some g) :=
  World.grownBy.trans (World.grownBy.trans (World.grownBy.trans (grown_setCell _ _ _ _) (grown_setCell _ _ _ _)) (grown_setCell _ _ _ _)) (grown_setCell _ _ _ _)
/-- what is written into blocks of the call's own is no change of what was there -/
theorem grown_own {w W W' : World} {bp g : Nat} (h : w.grownBy W (some bp)) (hg : W.grownBy W' (some g)) (hlo : w.heap.size ≤ g) : w.grownBy W' (some bp) :=
  ⟨hg.os.trans h.os, hg.tape.trans h.tape, hg.output.trans h.output, Nat.le_trans h.size hg.size, fun k hk hne => (hg.block k (Nat.lt_of_lt_of_le hk h.size) (fun e => by injection e; omega)).trans (h.block k hk hne)⟩
theorem took_set4 {w W : World} {bp : Nat} {ty : TypeId} {A : Option Addr} {c : Nat} {ts : List Lx.Tok} {s s0 : St} (hr : RowAt W bp ty A c ts s) (hg : w.grownBy W (some bp)) (h0 : RowAt w bp ty A c ts s0) {g : Nat} (hlo : w.heap.size ≤ g) (x0 x1 x2 x3 : Value) :
    Took w bp ty A c ts s ((((W.setCell ⟨g, 0, none⟩ x0).setCell ⟨g, 1, none⟩ x1).setCell ⟨g, 2, none⟩ x2).setCell ⟨g, 3, none⟩ x3) :=
  ⟨hr.grow (grown_set4 (bp := bp) (.inr trivial) _ _ _ _) (by have := h0.lt; omega) (fun hne b o p e => by have := h0.old hne b o p e; omega), grown_own hg (grown_set4 (bp := bp) (.inr trivial) _ _ _ _) hlo⟩
set_option maxHeartbeats 4000000 in
theorem token_any (bp : Nat) (A : Option Addr) (c : Nat) (ts : List Lx.Tok) (s : St) (k : Int) (w : World) (h : RowAt w bp 61 A c ts s) :
    Calls Try.prog 97 #[.pointer (some ⟨bp, 0, none⟩), .int .i64 k] w fun e w' => e = .returned (tokAgg (token ts s k).1) ∧ Took w bp 61 A c ts (token ts s k).2 w' := by
  have HR := Lib.hid h
  have HN := Lib.hid (fun W h => next_any bp A c ts s W h)
  have hle := h.le
  have hlen := h.len
  clear h
  have htk : token ts s k = if (has ts s && (cur ts s).kind == k) = true then (cur ts s, s.adv) else (zeroTok, s.fail) := by
    unfold token
    rw [isKind_cur]
    rcases hh : has ts s with _ | _
    · rw [Bool.false_and]; rfl
    · rw [tok_cur hh]; rfl
  have HHL : Hid (has ts s = true → s.at_ < ts.length) := fun h => by
    unfold has at h
    simp at h
    exact h.2
  generalize token ts s k = r at *
  generalize has ts s = hh at *
  generalize cur ts s = t at *
  obtain ⟨kd, tx, n, pl⟩ := t
  unfold tokAgg at *
  dsimp only at *
  have HZ0 : Hid (∀ V, Below w.heap.size w (w.alloc V)) := fun V => (Below.refl _ _).alloc (Nat.le_refl _) V
  have key : (hh = true ∧ (kd == k) = true ∧ r = (⟨kd, tx, n, pl⟩, s.adv)) ∨ (hh = true ∧ (kd == k) = false ∧ r = (zeroTok, s.fail)) ∨ (hh = false ∧ r = (zeroTok, s.fail)) := by
    cases hh
    · exact .inr (.inr ⟨rfl, htk⟩)
    · rcases hk : (kd == k) with _ | _
      · exact .inr (.inl ⟨rfl, rfl, by rw [htk, hk]; rfl⟩)
      · exact .inl ⟨rfl, rfl, by rw [htk, hk]; rfl⟩
  clear htk
  rcases key with ⟨rfl, hk, rfl⟩ | ⟨rfl, hk, rfl⟩ | ⟨rfl, rfl⟩
  · have hne : (kd != k) = false := by rw [bne, hk]; rfl
    have HLT := Lib.hid (HHL.out rfl)
    clear hk
    dsimp only
    go_enter Try.func97, Try.ntmps97
    go_wp2_with fail
    obtain ⟨W0, hW0⟩ : ∃ W0, W0 = w.alloc (.cells #[.int .i64 0, .string ⟨#[]⟩, .int .i32 0, .int .i64 0] 40) := ⟨_, rfl⟩
    rw [← hW0]
    have HB0 : Hid (Below w.heap.size w W0) := by rw [hW0]; exact HZ0.out _
    have HZ : Hid (W0.heap[w.heap.size]? = some (.cells #[.int .i64 0, .string ⟨#[]⟩, .int .i32 0, .int .i64 0] 40 (0, 0))) := by rw [hW0]; exact heap_alloc_new _ _
    clear hW0
    refine (HN.out _ (HR.out.below HB0.out (Nat.le_refl _))).mono ?_
    rintro e w1 ⟨rfl, hb1⟩
    have hz1 := Nat.lt_of_lt_of_le (Array.getElem?_eq_some_iff.1 HZ.out).1 hb1.size
    have HZ1 := Lib.hid ((hb1.block _ (Array.getElem?_eq_some_iff.1 HZ.out).1).trans HZ.out)
    have HB1 := Lib.hid (HB0.out.trans (hb1.mono HB0.out.size))
    have HR1 := Lib.hid (HR.out.below HB1.out (Nat.le_refl _))
    have hbw := HR.out.lt
    clear hb1
    go_upto_region 5 with (fail)
    obtain ⟨W2, hW2⟩ : ∃ W2, W2 = w1.alloc (.cells #[.int .i64 kd, .string ⟨tx.toArray⟩, .int .i32 n, .int .i64 pl] 40) := ⟨_, rfl⟩
    rw [← hW2]
    have HB2 : Hid (Below w.heap.size w W2) := by rw [hW2]; exact HB1.out.alloc HB1.out.size _
    have HR2 : Hid (RowAt W2 bp 61 A c ts s) := HR.out.below HB2.out (Nat.le_refl _)
    have HZ2 : Hid (W2.heap[w.heap.size]? = some (.cells #[.int .i64 0, .string ⟨#[]⟩, .int .i32 0, .int .i64 0] 40 (0, 0))) := by rw [hW2]; exact (heap_alloc_old _ _ hz1).trans HZ1.out
    have HT2 : Hid (W2.heap[w1.heap.size]? = some (.cells #[.int .i64 kd, .string ⟨tx.toArray⟩, .int .i32 n, .int .i64 pl] 40 (0, 0))) := by rw [hW2]; exact heap_alloc_new _ _
    clear hW2
    obtain ⟨c0, c1, c2, g1, g2⟩ := HR2.out.cells
    go_upto_region 6 with (fail)
    obtain ⟨W3, hW3⟩ : ∃ W3, W3 = W2.setCell ⟨bp, 1, none⟩ (.int .i64 ((s.at_ : Int) + 1)) := ⟨_, rfl⟩
    rw [← hW3]
    have HR3 : Hid (RowAt W3 bp 61 A c ts s.adv) := by rw [hW3]; exact HR2.out.setAt HLT.out
    have HG3 : Hid (w.grownBy W3 (some bp)) := by rw [hW3]; exact World.grownBy.trans (grown_of_below HB2.out _) (grown_setCell _ _ _ _)
    have HZ3 : Hid (W3.heap[w.heap.size]? = some (.cells #[.int .i64 0, .string ⟨#[]⟩, .int .i32 0, .int .i64 0] 40 (0, 0))) := by rw [hW3]; exact (heap_setCell_other _ _ _ _ (by simp only; omega)).trans HZ2.out
    have HT3 : Hid (W3.heap[w1.heap.size]? = some (.cells #[.int .i64 kd, .string ⟨tx.toArray⟩, .int .i32 n, .int .i64 pl] 40 (0, 0))) := by rw [hW3]; exact (heap_setCell_other _ _ _ _ (by simp only; omega)).trans HT2.out
    clear hW3 c0 c1 c2 g1 g2
    obtain ⟨k0, k1, k2, k3, f0, f1, f2, f3⟩ := row4 HZ3.out
    obtain ⟨t0, t1, t2, t3, _⟩ := row4 HT3.out
    go_wp2_with fail
    refine ret_row 4 rfl rfl rfl (setrow4 HZ3.out _ _ _ _) Try.underlying40 infoTokS ⟨rfl, took_set4 HR3.out HG3.out HR.out (Nat.le_refl _) _ _ _ _⟩
  · have hne : (kd != k) = true := by rw [bne, hk]; rfl
    clear hk
    dsimp only
    go_enter Try.func97, Try.ntmps97
    go_wp2_with fail
    obtain ⟨W0, hW0⟩ : ∃ W0, W0 = w.alloc (.cells #[.int .i64 0, .string ⟨#[]⟩, .int .i32 0, .int .i64 0] 40) := ⟨_, rfl⟩
    rw [← hW0]
    have HB0 : Hid (Below w.heap.size w W0) := by rw [hW0]; exact HZ0.out _
    have HZ : Hid (W0.heap[w.heap.size]? = some (.cells #[.int .i64 0, .string ⟨#[]⟩, .int .i32 0, .int .i64 0] 40 (0, 0))) := by rw [hW0]; exact heap_alloc_new _ _
    clear hW0
    refine (HN.out _ (HR.out.below HB0.out (Nat.le_refl _))).mono ?_
    rintro e w1 ⟨rfl, hb1⟩
    have hz1 := Nat.lt_of_lt_of_le (Array.getElem?_eq_some_iff.1 HZ.out).1 hb1.size
    have HZ1 := Lib.hid ((hb1.block _ (Array.getElem?_eq_some_iff.1 HZ.out).1).trans HZ.out)
    have HB1 := Lib.hid (HB0.out.trans (hb1.mono HB0.out.size))
    have HR1 := Lib.hid (HR.out.below HB1.out (Nat.le_refl _))
    have hbw := HR.out.lt
    clear hb1
    go_upto_region 3 with (fail)
    obtain ⟨W2, hW2⟩ : ∃ W2, W2 = w1.alloc (.cells #[.int .i64 kd, .string ⟨tx.toArray⟩, .int .i32 n, .int .i64 pl] 40) := ⟨_, rfl⟩
    rw [← hW2]
    have HB2 : Hid (Below w.heap.size w W2) := by rw [hW2]; exact HB1.out.alloc HB1.out.size _
    have HR2 : Hid (RowAt W2 bp 61 A c ts s) := HR.out.below HB2.out (Nat.le_refl _)
    have HZ2 : Hid (W2.heap[w.heap.size]? = some (.cells #[.int .i64 0, .string ⟨#[]⟩, .int .i32 0, .int .i64 0] 40 (0, 0))) := by rw [hW2]; exact (heap_alloc_old _ _ hz1).trans HZ1.out
    have HT2 : Hid (W2.heap[w1.heap.size]? = some (.cells #[.int .i64 kd, .string ⟨tx.toArray⟩, .int .i32 n, .int .i64 pl] 40 (0, 0))) := by rw [hW2]; exact heap_alloc_new _ _
    clear hW2
    obtain ⟨c0, c1, c2, g1, g2⟩ := HR2.out.cells
    go_upto_region 4 with (fail)
    obtain ⟨W3, hW3⟩ : ∃ W3, W3 = W2.setCell ⟨bp, 2, none⟩ (.bool true) := ⟨_, rfl⟩
    rw [← hW3]
    have HR3 : Hid (RowAt W3 bp 61 A c ts s.fail) := by rw [hW3]; exact HR2.out.setBad
    have HG3 : Hid (w.grownBy W3 (some bp)) := by rw [hW3]; exact World.grownBy.trans (grown_of_below HB2.out _) (grown_setCell _ _ _ _)
    have HZ3 : Hid (W3.heap[w.heap.size]? = some (.cells #[.int .i64 0, .string ⟨#[]⟩, .int .i32 0, .int .i64 0] 40 (0, 0))) := by rw [hW3]; exact (heap_setCell_other _ _ _ _ (by simp only; omega)).trans HZ2.out
    clear hW3 c0 c1 c2 g1 g2
    obtain ⟨k0, k1, k2, k3, f0, f1, f2, f3⟩ := row4 HZ3.out
    go_wp2_with fail
    refine ret_row 4 rfl rfl rfl (setrow4 HZ3.out _ _ _ _) Try.underlying40 infoTokS ⟨rfl, took_set4 HR3.out HG3.out HR.out (Nat.le_refl _) _ _ _ _⟩
  · dsimp only
    go_enter Try.func97, Try.ntmps97
    go_wp2_with fail
    obtain ⟨W0, hW0⟩ : ∃ W0, W0 = w.alloc (.cells #[.int .i64 0, .string ⟨#[]⟩, .int .i32 0, .int .i64 0] 40) := ⟨_, rfl⟩
    rw [← hW0]
    have HB0 : Hid (Below w.heap.size w W0) := by rw [hW0]; exact HZ0.out _
    have HZ : Hid (W0.heap[w.heap.size]? = some (.cells #[.int .i64 0, .string ⟨#[]⟩, .int .i32 0, .int .i64 0] 40 (0, 0))) := by rw [hW0]; exact heap_alloc_new _ _
    clear hW0
    refine (HN.out _ (HR.out.below HB0.out (Nat.le_refl _))).mono ?_
    rintro e w1 ⟨rfl, hb1⟩
    have hz1 := Nat.lt_of_lt_of_le (Array.getElem?_eq_some_iff.1 HZ.out).1 hb1.size
    have HZ1 := Lib.hid ((hb1.block _ (Array.getElem?_eq_some_iff.1 HZ.out).1).trans HZ.out)
    have HB1 := Lib.hid (HB0.out.trans (hb1.mono HB0.out.size))
    have HR1 := Lib.hid (HR.out.below HB1.out (Nat.le_refl _))
    have hbw := HR.out.lt
    clear hb1
    go_upto_region 3 with (fail)
    obtain ⟨W2, hW2⟩ : ∃ W2, W2 = w1.alloc (.cells #[.int .i64 kd, .string ⟨tx.toArray⟩, .int .i32 n, .int .i64 pl] 40) := ⟨_, rfl⟩
    rw [← hW2]
    have HB2 : Hid (Below w.heap.size w W2) := by rw [hW2]; exact HB1.out.alloc HB1.out.size _
    have HR2 : Hid (RowAt W2 bp 61 A c ts s) := HR.out.below HB2.out (Nat.le_refl _)
    have HZ2 : Hid (W2.heap[w.heap.size]? = some (.cells #[.int .i64 0, .string ⟨#[]⟩, .int .i32 0, .int .i64 0] 40 (0, 0))) := by rw [hW2]; exact (heap_alloc_old _ _ hz1).trans HZ1.out
    have HT2 : Hid (W2.heap[w1.heap.size]? = some (.cells #[.int .i64 kd, .string ⟨tx.toArray⟩, .int .i32 n, .int .i64 pl] 40 (0, 0))) := by rw [hW2]; exact heap_alloc_new _ _
    clear hW2
    obtain ⟨c0, c1, c2, g1, g2⟩ := HR2.out.cells
    go_upto_region 4 with (fail)
    obtain ⟨W3, hW3⟩ : ∃ W3, W3 = W2.setCell ⟨bp, 2, none⟩ (.bool true) := ⟨_, rfl⟩
    rw [← hW3]
    have HR3 : Hid (RowAt W3 bp 61 A c ts s.fail) := by rw [hW3]; exact HR2.out.setBad
    have HG3 : Hid (w.grownBy W3 (some bp)) := by rw [hW3]; exact World.grownBy.trans (grown_of_below HB2.out _) (grown_setCell _ _ _ _)
    have HZ3 : Hid (W3.heap[w.heap.size]? = some (.cells #[.int .i64 0, .string ⟨#[]⟩, .int .i32 0, .int .i64 0] 40 (0, 0))) := by rw [hW3]; exact (heap_setCell_other _ _ _ _ (by simp only; omega)).trans HZ2.out
    clear hW3 c0 c1 c2 g1 g2
    obtain ⟨k0, k1, k2, k3, f0, f1, f2, f3⟩ := row4 HZ3.out
    go_wp2_with fail
    refine ret_row 4 rfl rfl rfl (setrow4 HZ3.out _ _ _ _) Try.underlying40 infoTokS ⟨rfl, took_set4 HR3.out HG3.out HR.out (Nat.le_refl _) _ _ _ _⟩
theorem field_text (W : World) (kd n pl : Int) (tx : Lx.Bs) : (Instr.field 40 (.agg #[.int .i64 kd, .string ⟨tx.toArray⟩, .int .i32 n, .int .i64 pl]) 1).run Try.prog W = .ok (.string ⟨tx.toArray⟩) W := by kernel_rfl
theorem field_num (W : World) (kd n pl : Int) (tx : Lx.Bs) : (Instr.field 40 (.agg #[.int .i64 kd, .string ⟨tx.toArray⟩, .int .i32 n, .int .i64 pl]) 2).run Try.prog W = .ok (.int .i32 n) W := by kernel_rfl
set_option maxHeartbeats 4000000 in
theorem name_any (bp : Nat) (A : Option Addr) (c : Nat) (ts : List Lx.Tok) (s : St) (w : World) (h : RowAt w bp 61 A c ts s) :
    Calls Try.prog 64 #[.pointer (some ⟨bp, 0, none⟩)] w fun e w' => e = .returned (.string ⟨(Tr.name ts s).1.toArray⟩) ∧ Took w bp 61 A c ts (Tr.name ts s).2 w' := by
  have HN := Lib.hid (token_any bp A c ts s 1 w h)
  unfold Tr.name
  dsimp only
  generalize token ts s 1 = r at *
  obtain ⟨⟨kd, tx, n, pl⟩, s'⟩ := r
  unfold tokAgg at *
  dsimp only at *
  go_enter Try.func64, Try.ntmps64
  go_wp2_with fail
  refine HN.out.mono ?_
  rintro e w1 ⟨rfl, hr1⟩
  have HR1 := Lib.hid hr1
  clear hr1
  have hfl := fun W => field_text W kd n pl tx
  go_wp2_with fail
  go_ret
  exact ⟨rfl, HR1.out⟩
end Go.Proofs.Ytilkilffkjhhbaa
namespace Go.Proofs.Ytilkilffkjhhbaa
set_option maxRecDepth 20000
set_option linter.unusedVariables false
open Go.RowKit Tr Mem

theorem among_cons (ts : List Lx.Tok) (s : St) (o : Int) (r : List Int) : among ts s (o :: r) = if sees ts s (opm o) = true then o else among ts s r := by rw [among]
theorem took_refl {w : World} {bp : Nat} {ty : TypeId} {A : Option Addr} {c : Nat} {ts : List Lx.Tok} {s : St} (h : RowAt w bp ty A c ts s) : Took w bp ty A c ts s w := ⟨h, World.grownBy.refl _ _⟩
theorem Took.trans {w w1 w2 : World} {bp : Nat} {ty : TypeId} {A : Option Addr} {c : Nat} {ts : List Lx.Tok} {s s' : St} (h : Took w bp ty A c ts s w1) (h2 : Took w1 bp ty A c ts s' w2) : Took w bp ty A c ts s' w2 := ⟨h2.1, World.grownBy.trans h.2 h2.2⟩
theorem strs_grown {w w' : World} {g bp : Nat} {l : List Lx.Bs} (h : StrsAt w g l) (hg : w.grownBy w' (some bp)) (hne : g ≠ bp) : StrsAt w' g l := fun k hk => hg.cell (h k hk) (fun e => hne (by injection e))
theorem strs_below {w w' : World} {g : Nat} {l : List Lx.Bs} (h : StrsAt w g l) (hb : Below w.heap.size w w') : StrsAt w' g l := fun k hk => (hb.cell (p := ⟨g, k, none⟩) (World.block_lt_of_cell? _ _ (h k hk))).trans (h k hk)
def AnyPost (w : World) (bp : Nat) (A : Option Addr) (c : Nat) (ts : List Lx.Tok) (s : St) (r : Int) (e : Ending) (w' : World) : Prop := e = .returned (.string ⟨(opm r).toArray⟩) ∧ Took w bp 61 A c ts (if r = 0 then s else s.adv) w'
set_option maxHeartbeats 4000000 in
theorem any_any (bp : Nat) (A : Option Addr) (c : Nat) (ts : List Lx.Tok) (s : St) (g cc : Nat) (l : List Int) (hl : ∀ o ∈ l, o ≠ 0) (hll : l.length ≤ 100) (hne : g ≠ bp) (w : World) (h : RowAt w bp 61 A c ts s) (hst : StrsAt w g (l.map opm)) :
    Calls Try.prog 112 #[.pointer (some ⟨bp, 0, none⟩), .slice (some ⟨g, 0, none⟩) l.length cc] w (AnyPost w bp A c ts s (among ts s l)) := by
  have HR := Lib.hid h
  have HST := Lib.hid hst
  have HT := Lib.hid (fun W m h => take_any bp A c ts s m W h)
  obtain ⟨r, hr⟩ : ∃ r, r = among ts s l := ⟨_, rfl⟩
  rw [← hr]
  have HRR := Lib.hid hr
  have HL := Lib.hid hl
  clear h hst hr hl
  go_enter Try.func112, Try.ntmps112
  go_wp2_with fail
  go_loopw [9] (fun i wr => ∃ j : Nat, j ≤ l.length ∧ i = .int .i64 j ∧ Hid (r = among ts s (l.drop j)) ∧ Hid (Took w bp 61 A c ts s wr)) (fun i _ => l.length - (intOf i).toNat)
  case atStart => exact ⟨0, Nat.zero_le _, rfl, HRR.out, took_refl HR.out⟩
  case round =>
    obtain ⟨j, hj, rfl, HJ, HK⟩ := hrel
    by_cases hlt : j < l.length
    · have hd : l.drop j = l[j]'hlt :: l.drop (j + 1) := (List.drop_eq_getElem_cons hlt)
      have hjj := HJ.out
      rw [hd, among_cons] at hjj
      have c0 := strs_grown HST.out HK.out.2 hne j (by simpa using hlt)
      have hmap : (l.map opm)[j]'(by simpa using hlt) = opm (l[j]'hlt) := by simp
      rw [hmap] at c0
      have HNZ := Lib.hid (HL.out _ (List.getElem_mem hlt))
      generalize l[j]'hlt = o at *
      have HC := Lib.hid (fun W h => HT.out W (opm o) h)
      obtain ⟨m, hm⟩ : ∃ m, m = opm o := ⟨_, rfl⟩
      rw [← hm] at c0 HC hjj
      have HM := Lib.hid hm
      clear hm hd hmap
      rcases hq : sees ts s m with _ | _
      · rw [hq, if_neg (by decide)] at hjj
        rw [hq, if_neg (by decide)] at HC
        have HJ1 := Lib.hid hjj
        clear hq hjj
        go_wp2_with fail
        refine (HC.out _ HK.out.1).mono ?_
        rintro e w1 ⟨rfl, hk1⟩
        have HK1 := Lib.hid (HK.out.trans hk1)
        clear hk1
        go_wp2_with fail
        go_roundw
        case rel => exact ⟨j + 1, by omega, by go_num, HJ1, HK1⟩
        case measure => simp [intOf]; omega
      · rw [hq, if_pos rfl] at hjj
        rw [hq, if_pos rfl] at HC
        have HJ1 := Lib.hid hjj
        clear hq hjj
        go_wp2_with fail
        refine (HC.out _ HK.out.1).mono ?_
        rintro e w1 ⟨rfl, hk1⟩
        have HK1 := Lib.hid (HK.out.trans hk1)
        clear hk1
        go_wp2_with fail
        go_ret
        exact ⟨by rw [HJ1.out, ← HM.out]; rfl, by rw [HJ1.out, if_neg HNZ.out]; exact HK1.out⟩
    · have hR : r = 0 := by
        rw [HJ.out, List.drop_eq_nil_of_le (by omega)]; rfl
      subst hR
      go_wp2_with fail
      go_ret
      exact ⟨rfl, by rw [if_pos rfl]; exact HK.out⟩
end Go.Proofs.Ytilkilffkjhhbaa
namespace Go.Proofs.Ytilkilffkjhhbaa
set_option maxRecDepth 20000
set_option linter.unusedVariables false
open Go.RowKit Tr Mem

/-- an expression behind a rule: its parts lie in new blocks, the row is as the plain parser leaves it -/
def Gives (w : World) (bp : Nat) (A : Option Addr) (c : Nat) (ts : List Lx.Tok) (r : Ex × St) (e : Ending) (w' : World) : Prop :=
  ∃ A' c', e = .returned (exAgg r.1 A' c') ∧ At w' (fun b => w.heap.size ≤ b) r.1 A' ∧ Took w bp 61 A c ts r.2 w'
def fnOf : Tr.Call → Nat
  | .expr => 61
  | .level _ => 96
  | .unary => 111
  | .factor => 120
  | .atom => 121
  | _ => 0
def argsOf (bp : Nat) : Tr.Call → Array Value
  | .level n => #[.pointer (some ⟨bp, 0, none⟩), .int .i64 (n : Nat)]
  | _ => #[.pointer (some ⟨bp, 0, none⟩)]
def Said (bp : Nat) (A : Option Addr) (c : Nat) (ts : List Lx.Tok) (k : Tr.Call) (s : St) : Prop := ∀ w, RowAt w bp 61 A c ts s → Calls Try.prog (fnOf k) (argsOf bp k) w (Gives w bp A c ts (P ts k s))
theorem atL1 {W : World} {g : Nat} {K : Nat → Prop} {x : Ex} {A : Option Addr} {c : Nat} {t : TypeId} (h : W.heap[g]? = some (.cells #[.int .i64 x.kind, .int .i32 x.n, .string ⟨x.name.toArray⟩, .slice A x.sub.length c] t (0, 0))) (hK : K g) (hx : At W K x A) : AtL W K [x] (some ⟨g, 0, none⟩) := by
  rw [atL_cons]
  exact ⟨⟨g, 0, rfl, hK, cell_of_row W g 0 _ _ _ h, cell_of_row W g 1 _ _ _ h, cell_of_row W g 2 _ _ _ h, A, c, cell_of_row W g 3 _ _ _ h, hx⟩, atL_nil _ _ _⟩
theorem atL2 {W : World} {g : Nat} {K : Nat → Prop} {x y : Ex} {A B : Option Addr} {c d : Nat} {t : TypeId} (h : W.heap[g]? = some (.cells #[.int .i64 x.kind, .int .i32 x.n, .string ⟨x.name.toArray⟩, .slice A x.sub.length c, .int .i64 y.kind, .int .i32 y.n, .string ⟨y.name.toArray⟩, .slice B y.sub.length d] t (0, 0))) (hK : K g) (hx : At W K x A) (hy : At W K y B) : AtL W K [x, y] (some ⟨g, 0, none⟩) := by
  rw [atL_cons, atL_cons]
  exact ⟨⟨g, 0, rfl, hK, cell_of_row W g 0 _ _ _ h, cell_of_row W g 1 _ _ _ h, cell_of_row W g 2 _ _ _ h, A, c, cell_of_row W g 3 _ _ _ h, hx⟩, ⟨g, 4, rfl, hK, cell_of_row W g 4 _ _ _ h, cell_of_row W g 5 _ _ _ h, cell_of_row W g 6 _ _ _ h, B, d, cell_of_row W g 7 _ _ _ h, hy⟩, atL_nil _ _ _⟩
theorem atL3 {W : World} {g : Nat} {K : Nat → Prop} {x y z : Ex} {A B C : Option Addr} {c d f : Nat} {t : TypeId} (h : W.heap[g]? = some (.cells #[.int .i64 x.kind, .int .i32 x.n, .string ⟨x.name.toArray⟩, .slice A x.sub.length c, .int .i64 y.kind, .int .i32 y.n, .string ⟨y.name.toArray⟩, .slice B y.sub.length d, .int .i64 z.kind, .int .i32 z.n, .string ⟨z.name.toArray⟩, .slice C z.sub.length f] t (0, 0))) (hK : K g) (hx : At W K x A) (hy : At W K y B) (hz : At W K z C) : AtL W K [x, y, z] (some ⟨g, 0, none⟩) := by
  rw [atL_cons, atL_cons, atL_cons]
  exact ⟨⟨g, 0, rfl, hK, cell_of_row W g 0 _ _ _ h, cell_of_row W g 1 _ _ _ h, cell_of_row W g 2 _ _ _ h, A, c, cell_of_row W g 3 _ _ _ h, hx⟩, ⟨g, 4, rfl, hK, cell_of_row W g 4 _ _ _ h, cell_of_row W g 5 _ _ _ h, cell_of_row W g 6 _ _ _ h, B, d, cell_of_row W g 7 _ _ _ h, hy⟩, ⟨g, 8, rfl, hK, cell_of_row W g 8 _ _ _ h, cell_of_row W g 9 _ _ _ h, cell_of_row W g 10 _ _ _ h, C, f, cell_of_row W g 11 _ _ _ h, hz⟩, atL_nil _ _ _⟩
/-- the result is stored, and handed back -/
theorem gives_end {w W : World} {bp : Nat} {A : Option Addr} {c : Nat} {ts : List Lx.Tok} {r : Ex × St} {s0 : St} (h0 : RowAt w bp 61 A c ts s0) (hk : Took w bp 61 A c ts r.2 W) (A' : Option Addr) (c' : Nat) (hat : At W (fun b => w.heap.size < b) r.1 A') (x0 x1 x2 x3 : Value) :
    Gives w bp A c ts r (.returned (exAgg r.1 A' c')) ((((W.setCell ⟨w.heap.size, 0, none⟩ x0).setCell ⟨w.heap.size, 1, none⟩ x1).setCell ⟨w.heap.size, 2, none⟩ x2).setCell ⟨w.heap.size, 3, none⟩ x3) :=
  ⟨A', c', rfl, (hat.grown (grown_set4 (bp := bp) (.inr trivial) _ _ _ _) (Nat.lt_irrefl _)).base (fun b hb _ => Nat.le_of_lt hb), took_set4 hk.1 hk.2 h0 (Nat.le_refl _) _ _ _ _⟩
theorem Took.alloc {w W : World} {bp : Nat} {ty : TypeId} {A : Option Addr} {c : Nat} {ts : List Lx.Tok} {s : St} (h : Took w bp ty A c ts s W) (o : Obj) : Took w bp ty A c ts s (W.alloc o) :=
  ⟨h.1.below ((Below.refl _ _).alloc (Nat.le_refl _) o) (Nat.le_refl _), World.grownBy.trans h.2 (World.grownBy_alloc _ _ _)⟩
theorem Took.below {w W W' : World} {bp : Nat} {ty : TypeId} {A : Option Addr} {c : Nat} {ts : List Lx.Tok} {s : St} (h : Took w bp ty A c ts s W) (hb : Below W.heap.size W W') : Took w bp ty A c ts s W' :=
  ⟨h.1.below hb (Nat.le_refl _), World.grownBy.trans h.2 (grown_of_below hb _)⟩
/-- a block that is not the row is kept -/
theorem Took.row {w W : World} {bp g : Nat} {ty : TypeId} {A : Option Addr} {c : Nat} {ts : List Lx.Tok} {s : St} {o : Obj} (h : Took w bp ty A c ts s W) (hg : w.heap[g]? = some o) (hne : g ≠ bp) : W.heap[g]? = some o :=
  (h.2.block g (Array.getElem?_eq_some_iff.1 hg).1 (fun e => hne (by injection e))).trans hg
theorem At.took {w W : World} {bp : Nat} {ty : TypeId} {A : Option Addr} {c : Nat} {ts : List Lx.Tok} {s : St} {K : Nat → Prop} {x : Ex} {A' : Option Addr} (h : At w K x A') (hk : Took w bp ty A c ts s W) (hK : ¬ K bp) : At W K x A' := h.grown hk.2 hK
theorem set4_size (W : World) (g : Nat) (x0 x1 x2 x3 : Value) : ((((W.setCell ⟨g, 0, none⟩ x0).setCell ⟨g, 1, none⟩ x1).setCell ⟨g, 2, none⟩ x2).setCell ⟨g, 3, none⟩ x3).heap.size = W.heap.size := by simp
/-- behind the stores into the result a new block: that block -/
theorem v_row {W : World} {g : Nat} (o : Array Value) (x0 x1 x2 x3 : Value) : (((((W.setCell ⟨g, 0, none⟩ x0).setCell ⟨g, 1, none⟩ x1).setCell ⟨g, 2, none⟩ x2).setCell ⟨g, 3, none⟩ x3).alloc (.cells o 43)).heap[W.heap.size]? = some (.cells o 43 (0, 0)) := by
  have h := heap_alloc_new ((((W.setCell ⟨g, 0, none⟩ x0).setCell ⟨g, 1, none⟩ x1).setCell ⟨g, 2, none⟩ x2).setCell ⟨g, 3, none⟩ x3) (.cells o 43)
  rw [set4_size] at h
  exact h
theorem v_at {W : World} {g : Nat} (o : Array Value) (x0 x1 x2 x3 : Value) {x : Ex} {A : Option Addr} (h : At W (fun b => g < b) x A) : At (((((W.setCell ⟨g, 0, none⟩ x0).setCell ⟨g, 1, none⟩ x1).setCell ⟨g, 2, none⟩ x2).setCell ⟨g, 3, none⟩ x3).alloc (.cells o 43)) (fun b => g ≤ b) x A :=
  ((h.grown (grown_set4 (bp := g) (.inr trivial) _ _ _ _) (Nat.lt_irrefl _)).base (fun b hb _ => Nat.le_of_lt hb)).below ((Below.refl _ _).alloc (Nat.le_refl _) _) (Nat.le_refl _)
theorem v_res {W : World} {g : Nat} {a b c d : Value} {t : TypeId} (h : W.heap[g]? = some (.cells #[a, b, c, d] t (0, 0))) (o : Array Value) (x0 x1 x2 x3 : Value) : (((((W.setCell ⟨g, 0, none⟩ x0).setCell ⟨g, 1, none⟩ x1).setCell ⟨g, 2, none⟩ x2).setCell ⟨g, 3, none⟩ x3).alloc (.cells o 43)).heap[g]? = some (.cells #[x0, x1, x2, x3] t (0, 0)) :=
  (heap_alloc_old _ _ (by rw [set4_size]; exact (Array.getElem?_eq_some_iff.1 h).1)).trans (setrow4 h _ _ _ _)
def zrow : Array Value := #[.int .i64 0, .int .i32 0, .string ⟨#[]⟩, .slice none 0 0]
theorem v_keep {W : World} {g g' : Nat} {O : Obj} (h : W.heap[g']? = some O) (hne : g' ≠ g) (o : Array Value) (x0 x1 x2 x3 : Value) : (((((W.setCell ⟨g, 0, none⟩ x0).setCell ⟨g, 1, none⟩ x1).setCell ⟨g, 2, none⟩ x2).setCell ⟨g, 3, none⟩ x3).alloc (.cells o 43)).heap[g']? = some O := by
  have hl := (Array.getElem?_eq_some_iff.1 h).1
  rw [heap_alloc_old _ _ (by rw [set4_size]; exact hl), heap_setCell_other _ _ _ _ hne, heap_setCell_other _ _ _ _ hne, heap_setCell_other _ _ _ _ hne, heap_setCell_other _ _ _ _ hne]
  exact h
theorem v_atk {W : World} {g : Nat} {K : Nat → Prop} (o : Array Value) (x0 x1 x2 x3 : Value) {x : Ex} {A : Option Addr} (h : At W K x A) (hK : ¬ K g) : At (((((W.setCell ⟨g, 0, none⟩ x0).setCell ⟨g, 1, none⟩ x1).setCell ⟨g, 2, none⟩ x2).setCell ⟨g, 3, none⟩ x3).alloc (.cells o 43)) K x A :=
  (h.grown (grown_set4 (bp := g) (.inr trivial) _ _ _ _) hK).below ((Below.refl _ _).alloc (Nat.le_refl _) _) (Nat.le_refl _)
theorem v_took2 {w W : World} {bp g : Nat} {A : Option Addr} {c : Nat} {ts : List Lx.Tok} {s s0 : St} (hk : Took w bp 61 A c ts s W) (h0 : RowAt w bp 61 A c ts s0) (hg : w.heap.size ≤ g) (o : Array Value) (x0 x1 x2 x3 : Value) : Took w bp 61 A c ts s (((((W.setCell ⟨g, 0, none⟩ x0).setCell ⟨g, 1, none⟩ x1).setCell ⟨g, 2, none⟩ x2).setCell ⟨g, 3, none⟩ x3).alloc (.cells o 43)) :=
  (took_set4 hk.1 hk.2 h0 hg _ _ _ _).alloc _
def atOf (w : World) (bp : Nat) : Nat := (((w.cell? ⟨bp, 1, none⟩).map intOf).getD 0).toNat
theorem RowAt.atOf {w : World} {bp : Nat} {ty : TypeId} {A : Option Addr} {c : Nat} {ts : List Lx.Tok} {s : St} (h : RowAt w bp ty A c ts s) : atOf w bp = s.at_ := by
  unfold Go.Proofs.Ytilkilffkjhhbaa.atOf
  rw [h.cells.2.1]
  simp [intOf]
theorem s4_keep {W : World} {g g' : Nat} {O : Obj} (h : W.heap[g']? = some O) (hne : g' ≠ g) (x0 x1 x2 x3 : Value) : ((((W.setCell ⟨g, 0, none⟩ x0).setCell ⟨g, 1, none⟩ x1).setCell ⟨g, 2, none⟩ x2).setCell ⟨g, 3, none⟩ x3).heap[g']? = some O := by
  rw [heap_setCell_other _ _ _ _ hne, heap_setCell_other _ _ _ _ hne, heap_setCell_other _ _ _ _ hne, heap_setCell_other _ _ _ _ hne]
  exact h
theorem s4_atk {W : World} {g : Nat} {K : Nat → Prop} (x0 x1 x2 x3 : Value) {x : Ex} {A : Option Addr} (h : At W K x A) (hK : ¬ K g) : At ((((W.setCell ⟨g, 0, none⟩ x0).setCell ⟨g, 1, none⟩ x1).setCell ⟨g, 2, none⟩ x2).setCell ⟨g, 3, none⟩ x3) K x A :=
  h.grown (grown_set4 (bp := g) (.inr trivial) _ _ _ _) hK
theorem row4c {W : World} {g : Nat} {a b c d : Value} {t : TypeId} (h : W.heap[g]? = some (.cells #[a, b, c, d] t (0, 0))) : W.cell? ⟨g, 0, none⟩ = some a ∧ W.cell? ⟨g, 1, none⟩ = some b ∧ W.cell? ⟨g, 2, none⟩ = some c ∧ W.cell? ⟨g, 3, none⟩ = some d :=
  ⟨cell_of_row W g 0 _ _ _ h, cell_of_row W g 1 _ _ _ h, cell_of_row W g 2 _ _ _ h, cell_of_row W g 3 _ _ _ h⟩
theorem row_drew {W : World} {g : Nat} {O : Obj} (h : W.heap[g]? = some O) : W.drew.heap[g]? = some O := h
theorem row_alloc {W : World} {g : Nat} {O : Obj} (h : W.heap[g]? = some O) (o : Obj) : (W.alloc o).heap[g]? = some O := (heap_alloc_old _ _ (Array.getElem?_eq_some_iff.1 h).1).trans h
theorem v_took {w W : World} {bp : Nat} {A : Option Addr} {c : Nat} {ts : List Lx.Tok} {s s0 : St} (hk : Took w bp 61 A c ts s W) (h0 : RowAt w bp 61 A c ts s0) (o : Array Value) (x0 x1 x2 x3 : Value) : Took w bp 61 A c ts s (((((W.setCell ⟨w.heap.size, 0, none⟩ x0).setCell ⟨w.heap.size, 1, none⟩ x1).setCell ⟨w.heap.size, 2, none⟩ x2).setCell ⟨w.heap.size, 3, none⟩ x3).alloc (.cells o 43)) :=
  (took_set4 hk.1 hk.2 h0 (Nat.le_refl _) _ _ _ _).alloc _
set_option maxHeartbeats 4000000 in
theorem unary_of (bp : Nat) (A : Option Addr) (c : Nat) (ts : List Lx.Tok) (s : St) (IH : ∀ (k : Tr.Call) (s' : St), (k = .unary ∨ k = .factor) → fuel ts k s' < fuel ts .unary s → Said bp A c ts k s') : Said bp A c ts .unary s := by
  intro w h
  have HR := Lib.hid h
  have HT := Lib.hid (fun W m h => take_any bp A c ts s m W h)
  have hbw := h.lt
  have HIH := Lib.hid IH
  obtain ⟨r, hr⟩ : ∃ r, r = P ts .unary s := ⟨_, rfl⟩
  rw [← hr]
  rw [P_unary] at hr
  clear h IH
  unfold fnOf argsOf
  dsimp only
  have HW0 : Hid (∀ V, Below w.heap.size w (w.alloc V)) := fun V => (Below.refl _ _).alloc (Nat.le_refl _) V
  rcases h1 : sees ts s [45] with _ | _
  rotate_left
  · rw [if_pos h1] at hr
    have HL := Lib.hid (sees_lt h1)
    have HSU := Lib.hid (HIH.out .unary s.adv (.inl rfl) (by have := HL.out.2; simp only [fuel, rank, adv_at]; omega))
    have HT1 := Lib.hid (fun W h => HT.out W [45] h)
    rw [h1, if_pos rfl] at HT1
    clear h1
    generalize hq : P ts .unary s.adv = q at *
    have HSU1 : Hid (∀ w, RowAt w bp 61 A c ts s.adv → Calls Try.prog 111 #[.pointer (some ⟨bp, 0, none⟩)] w (Gives w bp A c ts q)) := by unfold RowKit.Hid; rw [← hq]; exact HSU.out
    clear hq HSU
    obtain ⟨x, s'⟩ := q
    subst hr
    go_enter Try.func111, Try.ntmps111
    go_wp2_with fail
    obtain ⟨W0, hW0⟩ : ∃ W0, W0 = w.alloc (.cells zrow 43) := ⟨_, rfl⟩
    unfold zrow at hW0
    rw [← hW0]
    have HB0 : Hid (Below w.heap.size w W0) := by rw [hW0]; exact HW0.out _
    have HZ0 : Hid (W0.heap[w.heap.size]? = some (.cells zrow 43 (0, 0))) := by rw [hW0]; exact heap_alloc_new _ _
    have HK0 : Hid (Took w bp 61 A c ts s W0) := (took_refl HR.out).below HB0.out
    clear hW0
    refine (HT1.out _ HK0.out.1).mono ?_
    rintro e w1 ⟨rfl, hk1⟩
    have HK1 := Lib.hid (HK0.out.trans hk1)
    have HZ1 := Lib.hid (hk1.row HZ0.out (by omega))
    clear hk1 HZ0 HK0
    go_wp2_with fail
    refine (HSU1.out _ HK1.out.1).mono ?_
    rintro e w2 ⟨A2, c2, rfl, hat, hk2⟩
    have HK2 := Lib.hid (HK1.out.trans hk2)
    have HZ2 := Lib.hid (hk2.row HZ1.out (by omega))
    have hz2 := (Array.getElem?_eq_some_iff.1 HZ2.out).1
    have hz1 := (Array.getElem?_eq_some_iff.1 HZ1.out).1
    have HAT := Lib.hid (hat.base (B' := fun b => w.heap.size < b) (fun b hb _ => Nat.lt_of_lt_of_le hz1 hb))
    clear hat hk2 HK1 HZ1
    unfold exAgg
    dsimp only
    obtain ⟨k0, k1, k2, k3, f0, f1, f2, f3⟩ := row4 HZ2.out
    go_wp2_with fail
    refine ret_row 2 rfl rfl rfl (v_res HZ2.out _ _ _ _ _) Try.underlying43 infoExS ⟨some ⟨w2.heap.size, 0, none⟩, 1, rfl, ?_, v_took HK2.out HR.out _ _ _ _ _⟩
    dsimp only
    rw [at_eq]
    exact atL1 (v_row _ _ _ _ _) (Nat.le_of_lt hz2) (v_at _ _ _ _ _ HAT.out)
  rw [if_neg (by rw [h1]; decide)] at hr
  have HTN := Lib.hid (fun W h => HT.out W [45] h)
  rw [h1, if_neg (by decide)] at HTN
  clear h1
  rcases h2 : sees ts s wNot with _ | _
  rotate_left
  · rw [if_pos h2] at hr
    have HL := Lib.hid (sees_lt h2)
    have HSU := Lib.hid (HIH.out .unary s.adv (.inl rfl) (by have := HL.out.2; simp only [fuel, rank, adv_at]; omega))
    have HT1 := Lib.hid (fun W h => HT.out W wNot h)
    rw [h2, if_pos rfl] at HT1
    clear h2
    unfold wNot at HT1
    generalize hq : P ts .unary s.adv = q at *
    have HSU1 : Hid (∀ w, RowAt w bp 61 A c ts s.adv → Calls Try.prog 111 #[.pointer (some ⟨bp, 0, none⟩)] w (Gives w bp A c ts q)) := by unfold RowKit.Hid; rw [← hq]; exact HSU.out
    clear hq HSU
    obtain ⟨x, s'⟩ := q
    subst hr
    go_enter Try.func111, Try.ntmps111
    go_wp2_with fail
    obtain ⟨W0, hW0⟩ : ∃ W0, W0 = w.alloc (.cells zrow 43) := ⟨_, rfl⟩
    unfold zrow at hW0
    rw [← hW0]
    have HB0 : Hid (Below w.heap.size w W0) := by rw [hW0]; exact HW0.out _
    have HZ0 : Hid (W0.heap[w.heap.size]? = some (.cells zrow 43 (0, 0))) := by rw [hW0]; exact heap_alloc_new _ _
    have HK0 : Hid (Took w bp 61 A c ts s W0) := (took_refl HR.out).below HB0.out
    clear hW0
    refine (HTN.out _ HK0.out.1).mono ?_
    rintro e w0 ⟨rfl, hk0⟩
    have HK00 := Lib.hid (HK0.out.trans hk0)
    have HZ00 := Lib.hid (hk0.row HZ0.out (by omega))
    clear hk0 HZ0 HK0
    have HK0 := HK00
    have HZ0 := HZ00
    clear HK00 HZ00
    go_wp2_with fail
    refine (HT1.out _ HK0.out.1).mono ?_
    rintro e w1 ⟨rfl, hk1⟩
    have HK1 := Lib.hid (HK0.out.trans hk1)
    have HZ1 := Lib.hid (hk1.row HZ0.out (by omega))
    clear hk1 HZ0 HK0
    go_wp2_with fail
    refine (HSU1.out _ HK1.out.1).mono ?_
    rintro e w2 ⟨A2, c2, rfl, hat, hk2⟩
    have HK2 := Lib.hid (HK1.out.trans hk2)
    have HZ2 := Lib.hid (hk2.row HZ1.out (by omega))
    have hz2 := (Array.getElem?_eq_some_iff.1 HZ2.out).1
    have hz1 := (Array.getElem?_eq_some_iff.1 HZ1.out).1
    have HAT := Lib.hid (hat.base (B' := fun b => w.heap.size < b) (fun b hb _ => Nat.lt_of_lt_of_le hz1 hb))
    clear hat hk2 HK1 HZ1
    unfold exAgg
    dsimp only
    obtain ⟨k0, k1, k2, k3, f0, f1, f2, f3⟩ := row4 HZ2.out
    go_wp2_with fail
    refine ret_row 2 rfl rfl rfl (v_res HZ2.out _ _ _ _ _) Try.underlying43 infoExS ⟨some ⟨w2.heap.size, 0, none⟩, 1, rfl, ?_, v_took HK2.out HR.out _ _ _ _ _⟩
    dsimp only
    rw [at_eq]
    exact atL1 (v_row _ _ _ _ _) (Nat.le_of_lt hz2) (v_at _ _ _ _ _ HAT.out)
  · rw [if_neg (by rw [h2]; decide)] at hr
    have HT1 := Lib.hid (fun W h => HT.out W wNot h)
    rw [h2, if_neg (by decide)] at HT1
    unfold wNot at HT1
    have HSU := Lib.hid (HIH.out .factor s (.inr rfl) (by simp [fuel, rank]))
    clear h2
    generalize hq : P ts .factor s = q at *
    have HSU1 : Hid (∀ w, RowAt w bp 61 A c ts s → Calls Try.prog 120 #[.pointer (some ⟨bp, 0, none⟩)] w (Gives w bp A c ts q)) := by unfold RowKit.Hid; rw [← hq]; exact HSU.out
    clear hq HSU
    obtain ⟨x, s'⟩ := q
    subst hr
    go_enter Try.func111, Try.ntmps111
    go_wp2_with fail
    obtain ⟨W0, hW0⟩ : ∃ W0, W0 = w.alloc (.cells zrow 43) := ⟨_, rfl⟩
    unfold zrow at hW0
    rw [← hW0]
    have HB0 : Hid (Below w.heap.size w W0) := by rw [hW0]; exact HW0.out _
    have HZ0 : Hid (W0.heap[w.heap.size]? = some (.cells zrow 43 (0, 0))) := by rw [hW0]; exact heap_alloc_new _ _
    have HK0 : Hid (Took w bp 61 A c ts s W0) := (took_refl HR.out).below HB0.out
    clear hW0
    refine (HTN.out _ HK0.out.1).mono ?_
    rintro e w0 ⟨rfl, hk0⟩
    have HK00 := Lib.hid (HK0.out.trans hk0)
    have HZ00 := Lib.hid (hk0.row HZ0.out (by omega))
    clear hk0 HZ0 HK0
    have HK0 := HK00
    have HZ0 := HZ00
    clear HK00 HZ00
    go_wp2_with fail
    refine (HT1.out _ HK0.out.1).mono ?_
    rintro e w1 ⟨rfl, hk1⟩
    have HK1 := Lib.hid (HK0.out.trans hk1)
    have HZ1 := Lib.hid (hk1.row HZ0.out (by omega))
    clear hk1 HZ0 HK0
    go_wp2_with fail
    refine (HSU1.out _ HK1.out.1).mono ?_
    rintro e w2 ⟨A2, c2, rfl, hat, hk2⟩
    have HK2 := Lib.hid (HK1.out.trans hk2)
    have HZ2 := Lib.hid (hk2.row HZ1.out (by omega))
    have hz1 := (Array.getElem?_eq_some_iff.1 HZ1.out).1
    have HAT := Lib.hid (hat.base (B' := fun b => w.heap.size < b) (fun b hb _ => Nat.lt_of_lt_of_le hz1 hb))
    clear hat hk2 HK1 HZ1
    unfold exAgg
    dsimp only
    obtain ⟨k0, k1, k2, k3, f0, f1, f2, f3⟩ := row4 HZ2.out
    go_wp2_with fail
    exact ret_row 2 rfl rfl rfl (setrow4 HZ2.out _ _ _ _) Try.underlying43 infoExS (gives_end HR.out HK2.out A2 c2 HAT.out _ _ _ _)
end Go.Proofs.Ytilkilffkjhhbaa
