/-
  A drawn statement of judge's one, whatever the order.
-/
import Derived.Test.YtlfbpcjeohbfkaaJuC
import Derived.Test.YtlfbpcjeohbfkaaJuX
import Derived.Test.YtlfbpcjeohbfkaaRegFix
namespace Go.Proofs.Ytlfbpcjeohbfkaa
open Go.RowKit Mem

set_option linter.unusedVariables false
noncomputable def jone4Ops : Array Oper := findOps 4 ((Try.f18).body.getD (.exit 0))
def jone4Slots : List (Nat × Nat) := [(0, 19), (1, 20), (2, 21), (3, 22), (4, 23), (5, 24), (6, 25), (7, 26), (8, 27), (9, 28), (10, 29)]
def jone4Ch : List (Nat × Option Nat) := [(11, some 10), (12, some 11), (13, none), (14, none)]
def jone4Val (fr : Ju.Fr) (n k : Nat) (i0 : Ia.Ins) (c0 c1 c2 : Value) (gi g0 g1 : Nat) : Nat → Value
  | 0 => .pointer (some ⟨gi, 0, none⟩)
  | 1 => .int .i64 i0.op
  | 2 => frAgg fr
  | 3 => effAgg i0.op fr
  | 4 => .pointer (some ⟨g0, 0, none⟩)
  | 5 => .pointer (some ⟨g0, 0, none⟩)
  | 6 => .pointer (some ⟨g0, 0, none⟩)
  | 7 => .slice (some ⟨g1, 0, none⟩) (n + 1) (n + 1)
  | 8 => .int .i64 (k : Int)
  | 9 => .pointer (some ⟨g1, k * 3, none⟩)
  | _ => .agg #[c0, c1, c2]
def RowIn (w : World) (B : Nat) (v : Value) (t : TypeId) (cs : Array Value) : Prop := ∃ g, v = .pointer (some ⟨g, 0, none⟩) ∧ B ≤ g ∧ w.heap[g]? = some (.cells cs t (0, 0))
theorem RowIn.below {w w' : World} {B : Nat} {v : Value} {t : TypeId} {cs : Array Value} (h : RowIn w B v t cs) (hb : Below w.heap.size w w') : RowIn w' B v t cs := by
  obtain ⟨g, e, hg, hh⟩ := h
  exact ⟨g, e, hg, (hb.block _ (Array.getElem?_eq_some_iff.1 hh).1).trans hh⟩
theorem RowIn.ne {w : World} {B : Nat} {v : Value} {t : TypeId} {cs : Array Value} (h : RowIn w B v t cs) : v ≠ .pointer (some ⟨w.heap.size, 0, none⟩) := by
  obtain ⟨g, rfl, hg, hh⟩ := h
  have := (Array.getElem?_eq_some_iff.1 hh).1
  intro e
  injection e with e
  injection e with e
  injection e with e
  omega
theorem RowIn.set_ {w : World} {B g : Nat} {v : Value} {t : TypeId} {cs : Array Value} (h : RowIn w B v t cs) (hne : v ≠ .pointer (some ⟨g, 0, none⟩)) (xs : Array Value) : RowIn (w.setRow g xs) B v t cs := by
  obtain ⟨g', rfl, hg, hh⟩ := h
  refine ⟨g', rfl, hg, ?_⟩
  rw [setRow_other _ _ _ _ (fun e => hne (by rw [e]))]
  exact hh
def Jone4C (B : Nat) (E Pc : Array Value) (L : Nat → Bool) (vs : Nat → Value) (w : World) : Prop :=
  B ≤ w.heap.size ∧ (L 13 = true → L 11 = true) ∧ (L 14 = true → L 12 = true) ∧
  (L 11 = true → RowIn w B (vs 10) 58 (if L 13 = true then E else #[.int .i64 0, .int .i64 0, .int .i64 0])) ∧
  (L 12 = true → RowIn w B (vs 11) 52 (if L 14 = true then Pc else #[.bool false, .int .i64 0, .int .i64 0])) ∧
  (L 11 = true → L 12 = true → vs 10 ≠ vs 11)
theorem jone4Region {Q : Exit → Act → World → Prop} (a0 : Act) (W0 : World) (hs : 29 < a0.tmps.size) (fr : Ju.Fr) (n k : Nat) (i0 : Ia.Ins) (c0 c1 c2 : Value) (gi gf g0 g1 : Nat) (top fu : Int) (hk : k ≤ n) (hone : c0.oneCell' = true ∧ c1.oneCell' = true ∧ c2.oneCell' = true) (hi0 : W0.heap[gi]? = some (.cells #[.int .i64 i0.op, .int .i32 i0.n] 40 (0, 0))) (hf0 : W0.heap[gf]? = some (.cells #[.int .i64 fr.sl, .int .i64 fr.ol, .int .i64 fr.nw, .int .i64 fr.is, .int .i64 fr.os] 24 (0, 0))) (hw0 : WkAt W0 g0 g1 n top fu) (k0 : W0.cell? ⟨g1, k * 3, none⟩ = some c0) (k1 : W0.cell? ⟨g1, k * 3 + 1, none⟩ = some c1) (k2 : W0.cell? ⟨g1, k * 3 + 2, none⟩ = some c2)
    (e0 : a0.eval (.tmp 0) = .pointer (some ⟨g0, 0, none⟩))
    (e2 : a0.eval (.tmp 2) = .int .i64 (k : Int))
    (e5 : a0.eval (.tmp 5) = .pointer (some ⟨gi, 0, none⟩))
    (e7 : a0.eval (.tmp 7) = .pointer (some ⟨gf, 0, none⟩))
    (hQ : ∀ (vs : Nat → Value) w, Below W0.heap.size W0 w → (Jone4C W0.heap.size #[.int .i64 (Ju.takes i0.op), .int .i64 (Ju.gives i0.op), .int .i64 (Ju.room i0.op fr)] #[c0, c1, c2]) (fun _ => true) vs w → Q .normal (jone4Slots.foldl (fun x p => x.put (some p.2) ((jone4Val fr n k i0 c0 c1 c2 gi g0 g1) p.1)) ([10, 11].foldl (fun x d => x.put (some d) (vs d)) a0)) w) :
    wpAny Try.prog .any jone4Ops Q 15 (Array.replicate 15 false) a0 W0.drew := by
  have ok : slotsFix jone4Slots a0.tmps.size = true := by
    have : ∀ z, 29 < z → slotsFix jone4Slots z = true := by
      intro z hz
      simp [slotsFix, jone4Slots]
      try omega
    exact this _ hs
  have okc : chainOk jone4Slots jone4Ch a0.tmps.size = true := by
    have : ∀ z, 29 < z → chainOk jone4Slots jone4Ch z = true := by
      intro z hz
      simp [chainOk, jone4Slots, jone4Ch]
      try omega
    exact this _ hs
  have li : gi < W0.heap.size := (Array.getElem?_eq_some_iff.1 hi0).1
  have lf : gf < W0.heap.size := (Array.getElem?_eq_some_iff.1 hf0).1
  have lw : g0 < W0.heap.size := (Array.getElem?_eq_some_iff.1 hw0).1
  have l1 : g1 < W0.heap.size := World.block_lt_of_cell? _ _ k0
  have r0 : (0 : Int) ≤ k := by omega
  have r1 : (k : Int) < (n : Int) + 1 := by omega
  have hsz : (Try.prog.info? 58).map (·.size) = some 3 := by kernel_rfl
  have hszp : (Try.prog.info? 52).map (·.size) = some 3 := by kernel_rfl
  have hE1 : (#[.int .i64 (Ju.takes i0.op), .int .i64 (Ju.gives i0.op), .int .i64 (Ju.room i0.op fr)] : Array Value).all (·.oneCell') = true := by simp [Value.oneCell']
  have hP1 : (#[c0, c1, c2] : Array Value).all (·.oneCell') = true := by simp [hone.1, hone.2.1, hone.2.2]
  refine region_chain (by kernel_rfl) W0 a0 jone4Slots (jone4Val fr n k i0 c0 c1 c2 gi g0 g1) jone4Ch (Jone4C W0.heap.size #[.int .i64 (Ju.takes i0.op), .int .i64 (Ju.gives i0.op), .int .i64 (Ju.room i0.op fr)] #[c0, c1, c2]) ok okc 15 (by kernel_rfl) (by kernel_rfl) (by kernel_rfl) (fun L L' vs w h hc => by have h11 := h (11, some 10) (by decide); have h12 := h (12, some 11) (by decide); have h13 := h (13, none) (by decide); have h14 := h (14, none) (by decide); unfold Jone4C at *; simp only [← h11, ← h12, ← h13, ← h14]; exact hc) (fun L vs w w' hc hb => by obtain ⟨a0, a1, a2, a3, a4, a5⟩ := hc; exact ⟨Nat.le_trans a0 hb.size, a1, a2, fun x => (a3 x).below hb, fun x => (a4 x).below hb, a5⟩) (by refine ⟨Nat.le_refl _, fun h => ?_, fun h => ?_, fun h => ?_, fun h => ?_, fun h => ?_⟩ <;> cases h) ?_ (fun vs w hb hc => hQ vs w hb hc)
  intro a1 i L a w hev h hc hi hf hneed
  replace e0 := (hev 0 rfl).trans e0
  replace e2 := (hev 2 rfl).trans e2
  replace e5 := (hev 5 rfl).trans e5
  replace e7 := (hev 7 rfl).trans e7
  rcases (show i = 0 ∨ i = 1 ∨ i = 2 ∨ i = 3 ∨ i = 4 ∨ i = 5 ∨ i = 6 ∨ i = 7 ∨ i = 8 ∨ i = 9 ∨ i = 10 ∨ i = 11 ∨ i = 12 ∨ i = 13 ∨ i = 14 by omega) with rfl | rfl | rfl | rfl | rfl | rfl | rfl | rfl | rfl | rfl | rfl | rfl | rfl | rfl | rfl
  · refine .inl ?_
    exact fix_value (i := 0) (d := 19) rfl (wanted_none rfl) rfl (by decide) (x_field rfl ((h.old rfl).trans e5) (by simp [go_sem]))
  · refine .inl ?_
    exact fix_value (i := 1) (d := 20) rfl (wanted_none rfl) rfl (by decide) (x_load rfl (h.get 0 19 (by decide) (hneed 0 (by kernel_rfl))) (by have hh := (h.below.block _ li).trans hi0; have hh0 : w.cell? ⟨gi, 0, none⟩ = some (.int .i64 i0.op) := cell_of_row w gi 0 _ _ (0, 0) hh; simp [go_sem, hh0]; rfl))
  · refine .inl ?_
    exact fix_value (i := 2) (d := 21) rfl (wanted_none rfl) rfl (by decide) (x_load_row (cs := [.int .i64 fr.sl, .int .i64 fr.ol, .int .i64 fr.nw, .int .i64 fr.is, .int .i64 fr.os]) (n := 5) rfl ((h.old rfl).trans e7) ((h.below.block _ lf).trans hf0) Try.underlying24 rfl (by kernel_rfl) rfl)
  · refine .inl ?_
    refine fix_call (i := 3) (d := 22) 23 Try.f23 #[.tmp 20, .tmp 21] _ #[.int .i64 i0.op, frAgg fr] rfl (wanted_none rfl) rfl (by decide) rfl (by simp [(h.get 1 20 (by decide) (hneed 1 (by kernel_rfl))), (h.get 2 21 (by decide) (hneed 2 (by kernel_rfl))), jone4Val]) Try.func23 (by kernel_rfl) (by kernel_rfl) ?_
    exact effectOf i0.op fr w
  · refine .inl ?_
    exact fix_value (i := 4) (d := 23) rfl (wanted_none rfl) rfl (by decide) (x_move rfl ((h.old rfl).trans e0))
  · refine .inl ?_
    exact fix_value (i := 5) (d := 24) rfl (wanted_none rfl) rfl (by decide) (x_nil rfl (h.get 4 23 (by decide) (hneed 4 (by kernel_rfl))))
  · refine .inl ?_
    exact fix_value (i := 6) (d := 25) rfl (wanted_none rfl) rfl (by decide) (x_field rfl (h.get 5 24 (by decide) (hneed 5 (by kernel_rfl))) (by simp [go_sem]))
  · refine .inl ?_
    exact fix_value (i := 7) (d := 26) rfl (wanted_none rfl) rfl (by decide) (x_load rfl (h.get 6 25 (by decide) (hneed 6 (by kernel_rfl))) (by have hh := (h.below.block _ lw).trans hw0; have hh0 : w.cell? ⟨g0, 0, none⟩ = some (.slice (some ⟨g1, 0, none⟩) (n + 1) (n + 1)) := cell_of_row w g0 0 _ _ (0, 0) hh; simp [go_sem, hh0]; rfl))
  · refine .inl ?_
    exact fix_value (i := 8) (d := 27) rfl (wanted_none rfl) rfl (by decide) (x_move rfl ((h.old rfl).trans e2))
  · refine .inl ?_
    exact fix_value (i := 9) (d := 28) rfl (wanted_none rfl) rfl (by decide) (x_index rfl (h.get 7 26 (by decide) (hneed 7 (by kernel_rfl))) (h.get 8 27 (by decide) (hneed 8 (by kernel_rfl))) (by show (Instr.indexAt 48 (.slice (some ⟨g1, 0, none⟩) (n + 1) (n + 1)) (.int .i64 (k : Int))).run Try.prog w = .ok (.pointer (some ⟨g1, k * 3, none⟩)) w; simp [go_sem, r0, r1]))
  · refine .inl ?_
    exact fix_value (i := 10) (d := 29) rfl (wanted_none rfl) rfl (by decide) (x_load rfl (h.get 9 28 (by decide) (hneed 9 (by kernel_rfl))) (by have y0 := (h.below.cell (p := ⟨g1, k * 3, none⟩) l1).trans k0; have y1 := (h.below.cell (p := ⟨g1, k * 3 + 1, none⟩) l1).trans k1; have y2 := (h.below.cell (p := ⟨g1, k * 3 + 2, none⟩) l1).trans k2; simp [go_sem, y0, y1, y2]; rfl))
  · refine .inr ?_
    obtain ⟨a0, a1', a2, a3, a4, a5⟩ := hc
    simp only [] at a1' a2 a3 a4 a5
    have f13 : L.getD 13 false = false := by
      cases hq : L.getD 13 false with
      | false => rfl
      | true => rw [a1' hq] at hf; cases hf
    refine ⟨some 10, by decide, ch_value (i := 11) (v := .pointer (some ⟨w.heap.size, 0, none⟩)) (w' := w.alloc (.cells #[.int .i64 0, .int .i64 0, .int .i64 0] 58)) rfl (wanted_none rfl) (x_alloc rfl (by simp [go_sem])) ⟨_, rfl, h.below.alloc a0 _, ?_⟩⟩
    have hba : Below w.heap.size w (w.alloc (.cells #[.int .i64 0, .int .i64 0, .int .i64 0] 58)) := (Below.refl _ _).alloc (Nat.le_refl _) _
    refine ⟨Nat.le_trans a0 hba.size, fun _ => rfl, fun hh => ?_, fun _ => ?_, fun hh => ?_, fun _ hh => ?_⟩
    · simp only [Nat.reduceEqDiff, if_false] at hh ⊢; exact a2 hh
    · simp only [Nat.reduceEqDiff, if_false, if_true, f13]
      exact ⟨w.heap.size, rfl, a0, heap_alloc_new _ _⟩
    · simp only [Nat.reduceEqDiff, if_false, Option.some.injEq] at hh ⊢
      exact (a4 hh).below hba
    · simp only [Nat.reduceEqDiff, if_false, if_true, Option.some.injEq] at hh ⊢
      exact fun e => (a4 hh).ne e.symm
  · refine .inr ?_
    obtain ⟨a0, a1', a2, a3, a4, a5⟩ := hc
    simp only [] at a1' a2 a3 a4 a5
    have f14 : L.getD 14 false = false := by
      cases hq : L.getD 14 false with
      | false => rfl
      | true => rw [a2 hq] at hf; cases hf
    refine ⟨some 11, by decide, ch_value (i := 12) (v := .pointer (some ⟨w.heap.size, 0, none⟩)) (w' := w.alloc (.cells #[.bool false, .int .i64 0, .int .i64 0] 52)) rfl (wanted_none rfl) (x_alloc rfl (by simp [go_sem])) ⟨_, rfl, h.below.alloc a0 _, ?_⟩⟩
    have hba : Below w.heap.size w (w.alloc (.cells #[.bool false, .int .i64 0, .int .i64 0] 52)) := (Below.refl _ _).alloc (Nat.le_refl _) _
    refine ⟨Nat.le_trans a0 hba.size, fun hh => ?_, fun _ => rfl, fun hh => ?_, fun _ => ?_, fun hh _ => ?_⟩
    · simp only [Nat.reduceEqDiff, if_false] at hh ⊢; exact a1' hh
    · simp only [Nat.reduceEqDiff, if_false, Option.some.injEq] at hh ⊢
      exact (a3 hh).below hba
    · simp only [Nat.reduceEqDiff, if_false, if_true, f14]
      exact ⟨w.heap.size, rfl, a0, heap_alloc_new _ _⟩
    · simp only [Nat.reduceEqDiff, if_false, if_true, Option.some.injEq] at hh ⊢
      exact (a3 hh).ne
  · refine .inr ?_
    obtain ⟨a0, a1', a2, a3, a4, a5⟩ := hc
    simp only [] at a1' a2 a3 a4 a5
    have n11 := hneed 11 (by kernel_rfl)
    have hr := a3 n11
    rw [if_neg (by rw [hf]; decide)] at hr
    obtain ⟨g, eg, hg, hh⟩ := hr
    refine ⟨none, by decide, ch_oper (i := 13) rfl (wanted_none rfl) ?_⟩
    refine wp_store_row _ _ _ rfl g #[.int .i64 (Ju.takes i0.op), .int .i64 (Ju.gives i0.op), .int .i64 (Ju.room i0.op fr)] ((h.old rfl).trans eg) (h.get 3 22 (by decide) (hneed 3 (by kernel_rfl))) _ _ hh (by rw [hsz]; rfl) rfl hE1 ?_
    refine ⟨undef, rfl, below_setRow_ h.below hg, ?_⟩
    have hs13 : ∀ j, j ≠ 13 → (if j = 13 then true else L.getD j false) = L.getD j false := fun j hj => if_neg hj
    refine ⟨by rw [size_setRow]; exact a0, fun _ => n11, fun hh => a2 hh, fun _ => ?_, fun hh2 => ?_, fun x y => a5 x y⟩
    · exact ⟨g, eg, hg, setRow_heap _ _ _ _ _ _ hh⟩
    · exact (a4 hh2).set_ (fun e => a5 n11 hh2 (eg.trans e.symm)) _
  · refine .inr ?_
    obtain ⟨a0, a1', a2, a3, a4, a5⟩ := hc
    simp only [] at a1' a2 a3 a4 a5
    have n12 := hneed 12 (by kernel_rfl)
    have hr := a4 n12
    rw [if_neg (by rw [hf]; decide)] at hr
    obtain ⟨g, eg, hg, hh⟩ := hr
    refine ⟨none, by decide, ch_oper (i := 14) rfl (wanted_none rfl) ?_⟩
    refine wp_store_row _ _ _ rfl g #[c0, c1, c2] ((h.old rfl).trans eg) (h.get 10 29 (by decide) (hneed 10 (by kernel_rfl))) _ _ hh (by rw [hszp]; rfl) rfl hP1 ?_
    refine ⟨undef, rfl, below_setRow_ h.below hg, ?_⟩
    refine ⟨by rw [size_setRow]; exact a0, fun hh => a1' hh, fun _ => n12, fun hh2 => ?_, fun _ => ?_, fun x y => a5 x y⟩
    · exact (a3 hh2).set_ (fun e => a5 hh2 n12 (e.trans eg.symm)) _
    · exact ⟨g, eg, hg, setRow_heap _ _ _ _ _ _ hh⟩
end Go.Proofs.Ytlfbpcjeohbfkaa
