/-
  Copy's drawn statement: a part is copied and appended.
-/
import Derived.Test.YtilkilffkjhhbaaTrCpL
namespace Go.Proofs.Ytilkilffkjhhbaa
set_option maxRecDepth 20000
set_option linter.unusedVariables false
open Go.RowKit Tr Mem

set_option linter.unusedVariables false
/-- what holds while it is carried out -/
def CpC (W0 : World) (ob j : Nat) (R : Array Value) (V : Value) (xs : List Value) (l : List Ex) (y : Ex) (L : Nat → Bool) (vs : Nat → Value) (w : World) : Prop :=
  Below ob W0 w ∧ (L 9 = true → L 1 = true ∧ L 8 = true) ∧ (L 11 = true → L 9 = true) ∧ (L 8 = true → L 7 = true) ∧
  (L 1 = true → vs 15 = V) ∧
  (L 7 = true → ∃ A c, vs 21 = exAgg y A c ∧ At w (fun b => W0.heap.size ≤ b) y A) ∧
  (L 9 = false → w.ownsRow (ob + 1) 43 4 V j xs ∧ SubIn w (ownK ob V) l xs) ∧
  (L 8 = true → L 9 = false → ∃ g A c, vs 22 = .slice (some ⟨g, 0, none⟩) 1 1 ∧ w.heap[g]? = some (.cells (exCells y A c).toArray 43 (0, 0)) ∧ W0.heap.size ≤ g ∧ At w (fun b => W0.heap.size ≤ b) y A) ∧
  (L 9 = true → ∃ A c, w.ownsRow (ob + 1) 43 4 (vs 23) (j + 1) (xs ++ exCells y A c) ∧ SubIn w (ownK ob (vs 23)) (l ++ [y]) (xs ++ exCells y A c)) ∧
  w.heap[ob]? = some (.cells (if L 11 = true then R.setIfInBounds 3 (vs 23) else R) 43 (0, 0))
noncomputable def cpyOps : Array Oper := findOps 6 ((Try.f45).body.getD (.exit 0))
def cpySlots : List (Nat × Nat) := [(0, 14), (2, 16), (3, 17), (4, 18), (5, 19), (6, 20), (10, 24)]
def cpyCh : List (Nat × Option Nat) := [(1, some 15), (7, some 21), (8, some 22), (9, some 23), (11, none)]
def cpyVal (ge ob b off n c j : Nat) (y : Ex) (AY : Option Addr) (cY : Nat) : Nat → Value
  | 0 => .pointer (some ⟨ob, 3, none⟩)
  | 2 => .pointer (some ⟨ge, 3, none⟩)
  | 3 => .slice (some ⟨b, off, none⟩) n c
  | 4 => .int .i64 (j : Int)
  | 5 => .pointer (some ⟨b, off + j * 4, none⟩)
  | 6 => .agg #[.int .i64 y.kind, .int .i32 y.n, .string ⟨y.name.toArray⟩, .slice AY y.sub.length cY]
  | _ => .pointer (some ⟨ob, 3, none⟩)
theorem index_sub (w : World) (b off n c j : Nat) (h : j < n) : (Instr.indexAt 41 (.slice (some ⟨b, off, none⟩) n c) (.int .i64 (j : Int))).run Try.prog w = .ok (.pointer (some ⟨b, off + j * 4, none⟩)) w := by
  have e : (j : Int) < (n : Int) := by omega
  simp [go_sem, e]
set_option maxHeartbeats 4000000 in
theorem cpyRegion {Q : Exit → Act → World → Prop} (a0 : Act) (W0 : World) (hs : 24 < a0.tmps.size) (ge ob b off n c j : Nat) (R : Array Value) (V : Value) (xs : List Value) (l : List Ex) (y : Ex) (AY : Option Addr) (cY : Nat)
    (hj : j < n) (hn : n ≤ 1000000) (hRs : R.size = 4) (hR3 : R[3]? = some V) (hge : ge < ob) (hbo : b < ob) (hob : ob < W0.heap.size) (hrow : W0.heap[ob]? = some (.cells R 43 (0, 0))) (hown : W0.ownsRow (ob + 1) 43 4 V j xs) (hin : SubIn W0 (ownK ob V) l xs)
    (g3 : W0.cell? ⟨ge, 3, none⟩ = some (.slice (some ⟨b, off, none⟩) n c))
    (m0 : W0.cell? ⟨b, off + j * 4, none⟩ = some (.int .i64 y.kind)) (m1 : W0.cell? ⟨b, off + j * 4 + 1, none⟩ = some (.int .i32 y.n)) (m2 : W0.cell? ⟨b, off + j * 4 + 2, none⟩ = some (.string ⟨y.name.toArray⟩)) (m3 : W0.cell? ⟨b, off + j * 4 + 3, none⟩ = some (.slice AY y.sub.length cY))
    (hcall : ∀ W, Below ob W0 W → Calls Try.prog 45 #[.agg #[.int .i64 y.kind, .int .i32 y.n, .string ⟨y.name.toArray⟩, .slice AY y.sub.length cY]] W fun e W' => ∃ A c, e = .returned (exAgg y A c) ∧ At W' (fun b => W.heap.size ≤ b) y A ∧ Below W.heap.size W W')
    (e1 : a0.eval (.tmp 1) = .pointer (some ⟨ge, 0, none⟩)) (e3 : a0.eval (.tmp 3) = .pointer (some ⟨ob, 0, none⟩)) (e4 : a0.eval (.tmp 4) = .int .i64 (j : Int))
    (hQ : ∀ (vs : Nat → Value) w, (CpC W0 ob j R V xs l y) (fun _ => true) vs w → Q .normal (cpySlots.foldl (fun x p => x.put (some p.2) ((cpyVal ge ob b off n c j y AY cY) p.1)) ([15, 21, 22, 23].foldl (fun x d => x.put (some d) (vs d)) a0)) w) :
    wpAny Try.prog .any cpyOps Q 12 (Array.replicate 12 false) a0 W0.drew := by
  have ok : slotsFix cpySlots a0.tmps.size = true := by
    have : ∀ z, 24 < z → slotsFix cpySlots z = true := by
      intro z hz
      simp [slotsFix, cpySlots]
      try omega
    exact this _ hs
  have okc : chainOk cpySlots cpyCh a0.tmps.size = true := by
    have : ∀ z, 24 < z → chainOk cpySlots cpyCh z = true := by
      intro z hz
      simp [chainOk, cpySlots, cpyCh]
      try omega
    exact this _ hs
  obtain ⟨i0, hi0, hi1, hi2, hi3⟩ := info_parts infoExp
  have hsz23 : (Try.prog.info? 41).map (·.size) = some 1 := by kernel_rfl
  have hVl : ∀ k, V.ownBlock = some k → k < W0.heap.size := fun k hk => (hown.lt k hk).2
  have hVo : ∀ k, V.ownBlock = some k → ob < k := fun k hk => (hown.lt k hk).1
  refine region_chain2 (by kernel_rfl) W0 a0 cpySlots (cpyVal ge ob b off n c j y AY cY) cpyCh (CpC W0 ob j R V xs l y) ok okc 12 (by kernel_rfl) (by kernel_rfl) (by kernel_rfl)
    (fun L L' vs w h hc => by have h1 := h (1, some 15) (by decide); have h2 := h (7, some 21) (by decide); have h3 := h (8, some 22) (by decide); have h4 := h (9, some 23) (by decide); have h5 := h (11, none) (by decide); unfold CpC at *; simp only [← h1, ← h2, ← h3, ← h4, ← h5]; exact hc)
    (fun L vs w w' hc hb => by obtain ⟨a0, a1, a2, a3, a4, a5, a6, a7, a8, a9⟩ := hc; exact ⟨a0.trans (hb.mono (by have := a0.size; omega)), a1, a2, a3, a4, fun y => by obtain ⟨A, c, h1, h2⟩ := a5 y; exact ⟨A, c, h1, h2.below hb (Nat.le_refl _)⟩, fun y => ⟨Mem.own_below (a6 y).1 hb, (a6 y).2.below hb⟩, fun y z => by obtain ⟨g, A, c, e, hh, hl, ha⟩ := a7 y z; exact ⟨g, A, c, e, (hb.block _ (Array.getElem?_eq_some_iff.1 hh).1).trans hh, hl, ha.below hb (Nat.le_refl _)⟩, fun y => by obtain ⟨A, c, h1, h2⟩ := a8 y; exact ⟨A, c, Mem.own_below h1 hb, h2.below hb⟩, (hb.block _ (Array.getElem?_eq_some_iff.1 a9).1).trans a9⟩)
    (by refine ⟨(Below.refl _ _).drew, fun h => (by cases h), fun h => (by cases h), fun h => (by cases h), fun h => (by cases h), fun h => (by cases h), fun _ => ⟨hown, hin.below ((Below.refl _ _).drew)⟩, fun h => (by cases h), fun h => (by cases h), hrow⟩) ?_ (fun vs w hc => hQ vs w hc)
  intro a1 i L a w hev h hc hi hf hneed
  replace e1 := (hev 1 rfl).trans e1
  replace e3 := (hev 3 rfl).trans e3
  replace e4 := (hev 4 rfl).trans e4
  obtain ⟨b0, b1, b2, b3, b4, b5, b6, b7, b8, b9⟩ := hc
  simp only [] at b1 b2 b3 b4 b5 b6 b7 b8 b9
  rcases (show i = 0 ∨ i = 1 ∨ i = 2 ∨ i = 3 ∨ i = 4 ∨ i = 5 ∨ i = 6 ∨ i = 7 ∨ i = 8 ∨ i = 9 ∨ i = 10 ∨ i = 11 by omega) with rfl | rfl | rfl | rfl | rfl | rfl | rfl | rfl | rfl | rfl | rfl | rfl
  · refine .inl ?_
    exact fix_value (i := 0) (d := 14) rfl (wanted_none rfl) rfl (by decide) (x_field rfl ((h.old rfl).trans e3) (by simp [go_sem]))
  · refine .inr ?_
    have f9 : L.getD 9 false = false := by
      cases hq : L.getD 9 false with
      | false => rfl
      | true => exact absurd ((b1 hq).1) (by simp [hf])
    have f11 : L.getD 11 false = false := by
      cases hq : L.getD 11 false with
      | false => rfl
      | true => exact absurd (b2 hq) (by simp [f9])
    have hb0 := b9
    rw [if_neg (by rw [f11]; decide)] at hb0
    have hh0 : w.cell? ⟨ob, 3, none⟩ = some V := by rw [cell_of_row w ob 3 _ _ (0, 0) hb0]; exact hR3
    refine ⟨some 15, by decide, ch_value (i := 1) (v := V) (w' := w) rfl (wanted_none rfl) (x_load rfl (h.get 0 14 (by decide) (hneed 0 (by kernel_rfl))) (by first | (simp [go_sem, hh0]; done) | (simp [go_sem, hh0]; rfl))) ⟨V, rfl, b0, fun y => ?_, fun y => ?_, fun y => ?_, fun _ => ?_, fun y => ?_, fun y => ?_, fun y z => ?_, fun y => ?_, ?_⟩⟩
    · simp only [Nat.reduceEqDiff, if_false] at y; rw [f9] at y; cases y
    · simp only [Nat.reduceEqDiff, if_false] at y; rw [f11] at y; cases y
    · simp only [Nat.reduceEqDiff, if_false] at y ⊢; exact b3 y
    · rfl
    · simp only [Nat.reduceEqDiff, if_false, Option.some.injEq] at y ⊢; exact b5 y
    · exact b6 f9
    · simp only [Nat.reduceEqDiff, if_false, Option.some.injEq] at y ⊢; exact b7 y f9
    · simp only [Nat.reduceEqDiff, if_false] at y; rw [f9] at y; cases y
    · simp only [Nat.reduceEqDiff, if_false, Option.some.injEq]; rw [f11]; exact hb0
  · refine .inl ?_
    exact fix_value (i := 2) (d := 16) rfl (wanted_none rfl) rfl (by decide) (x_field rfl ((h.old rfl).trans e1) (by simp [go_sem]))
  · refine .inl ?_
    have h0 := (b0.cell (p := ⟨ge, 3, none⟩) (by simp only; omega)).trans g3
    exact fix_value (i := 3) (d := 17) rfl (wanted_none rfl) rfl (by decide) (x_load rfl (h.get 2 16 (by decide) (hneed 2 (by kernel_rfl))) (by simp [go_sem, h0]; try rfl))
  · refine .inl ?_
    exact fix_value (i := 4) (d := 18) rfl (wanted_none rfl) rfl (by decide) (x_move rfl ((h.old rfl).trans e4))
  · refine .inl ?_
    exact fix_value (i := 5) (d := 19) rfl (wanted_none rfl) rfl (by decide) (x_index rfl (h.get 3 17 (by decide) (hneed 3 (by kernel_rfl))) (h.get 4 18 (by decide) (hneed 4 (by kernel_rfl))) (index_sub w b off n c j hj))
  · refine .inl ?_
    have h0 := (b0.cell (p := ⟨b, off + j * 4, none⟩) (by simp only; omega)).trans m0
    have h1 := (b0.cell (p := ⟨b, off + j * 4 + 1, none⟩) (by simp only; omega)).trans m1
    have h2 := (b0.cell (p := ⟨b, off + j * 4 + 2, none⟩) (by simp only; omega)).trans m2
    have h3 := (b0.cell (p := ⟨b, off + j * 4 + 3, none⟩) (by simp only; omega)).trans m3
    exact fix_value (i := 6) (d := 20) rfl (wanted_none rfl) rfl (by decide) (x_load rfl (h.get 5 19 (by decide) (hneed 5 (by kernel_rfl))) (by simp [go_sem, h0, h1, h2, h3]; try rfl))
  · refine .inr ?_
    have f8 : L.getD 8 false = false := by
      cases hq : L.getD 8 false with
      | false => rfl
      | true => exact absurd (b3 hq) (by simp [hf])
    have f9 : L.getD 9 false = false := by
      cases hq : L.getD 9 false with
      | false => rfl
      | true => exact absurd ((b1 hq).2) (by simp [f8])
    have f11 : L.getD 11 false = false := by
      cases hq : L.getD 11 false with
      | false => rfl
      | true => exact absurd (b2 hq) (by simp [f9])
    have hb0 := b9
    rw [if_neg (by rw [f11]; decide)] at hb0
    refine ⟨some 21, by decide, ch_call (i := 7) 45 Try.f45 #[.tmp 20] _ #[.agg #[.int .i64 y.kind, .int .i32 y.n, .string ⟨y.name.toArray⟩, .slice AY y.sub.length cY]] rfl (wanted_none rfl) rfl (by simp [(h.get 6 20 (by decide) (hneed 6 (by kernel_rfl))), cpyVal]) Try.func45 (by kernel_rfl) (by kernel_rfl) ?_⟩
    refine (hcall w b0).mono ?_
    rintro e w' ⟨A', c', rfl, hat, hk⟩
    refine ⟨_, rfl, _, rfl, b0.trans (hk.mono (by have := b0.size; omega)), fun y => ?_, fun y => ?_, fun y => ?_, fun y => ?_, fun y => ?_, fun y => ?_, fun y z => ?_, fun y => ?_, ?_⟩
    · simp only [Nat.reduceEqDiff, if_false] at y; rw [f9] at y; cases y
    · simp only [Nat.reduceEqDiff, if_false] at y; rw [f11] at y; cases y
    · simp only [if_true]
    · simp only [Nat.reduceEqDiff, if_false, Option.some.injEq] at y ⊢; exact b4 y
    · simp only [if_true]; exact ⟨A', c', rfl, hat.base (fun b hb _ => Nat.le_trans b0.size hb)⟩
    · exact ⟨Mem.own_below (b6 f9).1 hk, (b6 f9).2.below hk⟩
    · simp only [Nat.reduceEqDiff, if_false] at y; rw [f8] at y; cases y
    · simp only [Nat.reduceEqDiff, if_false] at y; rw [f9] at y; cases y
    · simp only [Nat.reduceEqDiff, if_false, Option.some.injEq]; rw [f11]; exact (hk.block _ (Array.getElem?_eq_some_iff.1 hb0).1).trans hb0
  · refine .inr ?_
    have f9 : L.getD 9 false = false := by
      cases hq : L.getD 9 false with
      | false => rfl
      | true => exact absurd ((b1 hq).2) (by simp [hf])
    have f11 : L.getD 11 false = false := by
      cases hq : L.getD 11 false with
      | false => rfl
      | true => exact absurd (b2 hq) (by simp [f9])
    have hb0 := b9
    rw [if_neg (by rw [f11]; decide)] at hb0
    have n7 := hneed 7 (by kernel_rfl)
    obtain ⟨A', c', ev, hat⟩ := b5 n7
    have hba : Below w.heap.size w (w.alloc (.cells (exCells y A' c').toArray 43)) := (Below.refl _ _).alloc (Nat.le_refl _) _
    refine ⟨some 22, by decide, ch_oper (i := 8) rfl (wanted_none rfl) ?_⟩
    refine wp_buildSlice 41 43 1 #[(0, .tmp 21)] rfl (exCells y A' c').toArray i0 (.agg #[.int .i64 0, .int .i32 0, .string ⟨#[]⟩, .slice none 0 0]) Try.underlying41 hi0 hi1 (by rw [hi2]; decide) (by rw [hi2]; decide) (by rw [hi2]; simp only [List.map_toArray, List.map_cons, List.map_nil]; rw [show a.eval (.tmp 21) = exAgg y A' c' from (h.old rfl).trans ev]; exact fill_ex y A' c') ?_
    refine ⟨_, rfl, b0.trans (hba.mono (by have := b0.size; omega)), fun y => ?_, fun y => ?_, fun y => ?_, fun y => ?_, fun y => ?_, fun y => ?_, fun y z => ?_, fun y => ?_, ?_⟩
    · simp only [Nat.reduceEqDiff, if_false] at y; rw [f9] at y; cases y
    · simp only [Nat.reduceEqDiff, if_false] at y; rw [f11] at y; cases y
    · simp only [Nat.reduceEqDiff, if_false]; exact n7
    · simp only [Nat.reduceEqDiff, if_false, Option.some.injEq] at y ⊢; exact b4 y
    · simp only [Nat.reduceEqDiff, if_false, Option.some.injEq] at y ⊢; exact ⟨A', c', ev, hat.below hba (Nat.le_refl _)⟩
    · exact ⟨Mem.own_below (b6 f9).1 hba, (b6 f9).2.below hba⟩
    · simp only [if_true]; exact ⟨w.heap.size, A', c', rfl, heap_alloc_new _ _, b0.size, hat.below hba (Nat.le_refl _)⟩
    · simp only [Nat.reduceEqDiff, if_false] at y; rw [f9] at y; cases y
    · simp only [Nat.reduceEqDiff, if_false, Option.some.injEq]; rw [f11]; exact (hba.block _ (Array.getElem?_eq_some_iff.1 hb0).1).trans hb0
  · refine .inr ?_
    have f11 : L.getD 11 false = false := by
      cases hq : L.getD 11 false with
      | false => rfl
      | true => exact absurd (b2 hq) (by simp [hf])
    have hb0 := b9
    rw [if_neg (by rw [f11]; decide)] at hb0
    have n1 := hneed 1 (by kernel_rfl)
    have n8 := hneed 8 (by kernel_rfl)
    obtain ⟨g, A', c', eg, hg, hlg, hat⟩ := b7 n8 hf
    obtain ⟨ho, hsub⟩ := b6 hf
    refine ⟨some 23, by decide, ch_oper (i := 9) rfl (wanted_none rfl) ?_⟩
    refine wp_append_own_at (.tmp 15) (.tmp 22) 41 rfl (ob + 1) 43 i0 (.agg #[.int .i64 0, .int .i32 0, .string ⟨#[]⟩, .slice none 0 0]) 4 56 Try.underlying41 hi0 hi1 hi2 hi3 rfl (by decide) V j xs ((h.old rfl).trans (b4 n1)) ho ⟨g, 0, none⟩ 1 1 (exCells y A' c') ((h.old rfl).trans eg) rfl (fun j u hu => by rw [Mem.add_at, cell_of_row w g j _ _ (0, 0) hg]; simpa using hu) (exCells_one _ _ _) (by unfold maxLen; omega) (by omega) (by have := b0.size; omega) ?_
    intro v' w' hown' hgr hwh
    have mv1 : ∀ b, W0.heap.size ≤ b → b < w.heap.size → w'.heap[b]? = w.heap[b]? := fun b hb hlt => hgr.block b hlt (fun e => by have := hVl b e.symm; omega)
    have mv2 : ∀ b, W0.heap.size ≤ b → b < w.heap.size → ownK ob v' b := fun b hb hlt => ⟨by omega, fun k hk e => by
      rcases hwh with e2 | e2
      · rw [e2] at hk; have := hVl k hk; omega
      · rw [e2] at hk; injection hk with hk; omega⟩
    have mv3 : ∀ b, ownK ob V b → b < w.heap.size → w'.heap[b]? = w.heap[b]? := fun b hb hlt => hgr.block b hlt (fun e => hb.2 b e.symm rfl)
    have mv4 : ∀ b, ownK ob V b → b < w.heap.size → ownK ob v' b := fun b hb hlt => ⟨hb.1, fun k hk e => by
      rcases hwh with e2 | e2
      · rw [e2] at hk; exact hb.2 k hk e
      · rw [e2] at hk; injection hk with hk; omega⟩
    refine ⟨_, rfl, b0.trans (below_of_grown hgr (by have := b0.size; omega) (fun k e => by have := hVo k e; omega)), fun y => ?_, fun y => ?_, fun y => ?_, fun y => ?_, fun y => ?_, fun y => ?_, fun y z => ?_, fun y => ?_, ?_⟩
    · simp only [Nat.reduceEqDiff, if_false]; exact ⟨n1, n8⟩
    · simp only [if_true]
    · simp only [Nat.reduceEqDiff, if_false] at y ⊢; exact b3 y
    · simp only [Nat.reduceEqDiff, if_false, Option.some.injEq] at y ⊢; exact b4 y
    · simp only [Nat.reduceEqDiff, if_false, Option.some.injEq] at y ⊢
      obtain ⟨A2, c2, h1, h2⟩ := b5 y
      exact ⟨A2, c2, h1, h2.move mv1 (fun b hb _ => hb)⟩
    · simp only [if_true] at y; cases y
    · simp only [if_true] at z; cases z
    · simp only [if_true]; exact ⟨A', c', hown', SubIn.snoc (hat.move mv1 mv2) (hsub.move mv3 mv4)⟩
    · simp only [Nat.reduceEqDiff, if_false, if_true]; rw [f11]; exact (hgr.block ob (Array.getElem?_eq_some_iff.1 hb0).1 (fun e => by have := hVo ob e.symm; omega)).trans hb0
  · refine .inl ?_
    exact fix_value (i := 10) (d := 24) rfl (wanted_none rfl) rfl (by decide) (x_field rfl ((h.old rfl).trans e3) (by simp [go_sem]))
  · refine .inr ?_
    have n9 := hneed 9 (by kernel_rfl)
    have hb0 := b9
    rw [if_neg (by rw [hf]; decide)] at hb0
    obtain ⟨A', c', ho, hsub⟩ := b8 n9
    obtain ⟨A9, c9, e9⟩ := own_slice ho
    have hne : (a1.eval (.tmp 23)).ownBlock ≠ some ob := fun e => by have := (ho.lt ob e).1; omega
    refine ⟨none, by decide, ch_oper (i := 11) rfl (wanted_none rfl) ?_⟩
    refine wp_store_slice _ _ _ rfl ob 3 A9 (j + 1) c9 (h.get 10 24 (by decide) (hneed 10 (by kernel_rfl))) ((h.old rfl).trans e9) hb0 (by rw [hRs]; decide) hsz23 ?_
    rw [← e9]
    have hgs := grown_setCell w ob 3 (a1.eval (.tmp 23))
    have mv : ∀ b, b ≠ ob → (w.setCell ⟨ob, 3, none⟩ (a1.eval (.tmp 23))).heap[b]? = w.heap[b]? := fun b hb => heap_setCell_other _ _ _ _ hb
    refine ⟨undef, rfl, b0.setCell (Nat.le_refl _) _, fun y => ?_, fun y => ?_, fun y => ?_, fun y => ?_, fun y => ?_, fun y => ?_, fun y z => ?_, fun y => ?_, ?_⟩
    · exact b1 n9
    · exact n9
    · simp only [Nat.reduceEqDiff, if_false] at y ⊢; exact b3 y
    · simp only [Nat.reduceEqDiff, if_false] at y ⊢; exact b4 y
    · simp only [Nat.reduceEqDiff, if_false] at y ⊢
      obtain ⟨A2, c2, h1, h2⟩ := b5 y
      exact ⟨A2, c2, h1, h2.same (fun b hb _ => mv b (by omega))⟩
    · simp only [Nat.reduceEqDiff, if_false] at y; rw [n9] at y; cases y
    · simp only [Nat.reduceEqDiff, if_false] at z; rw [n9] at z; cases z
    · simp only []; exact ⟨A', c', ho.kept hgs (.inr hne), hsub.same (fun b hb _ => mv b (by have := hb.1; omega))⟩
    · simp only [if_true]; exact heap_setCell_same _ ob 3 _ _ _ hb0
end Go.Proofs.Ytilkilffkjhhbaa
