/-
  A drawn statement of JudgeJoins, whatever the order.
-/
import Derived.Test.YtlfbpcjeohbfkaaJuM
import Derived.Test.YtlfbpcjeohbfkaaRegMade
import Derived.Test.YtlfbpcjeohbfkaaRegFix
namespace Go.Proofs.Ytlfbpcjeohbfkaa
open Go.RowKit Mem

set_option linter.unusedVariables false
noncomputable def jjnOps : Array Oper := findOps 7 ((Try.f5).body.getD (.exit 0))
def jjnSlots : List (Nat × Nat) := [(0, 47), (2, 49), (4, 51), (6, 46), (7, 53), (8, 54), (9, 55), (12, 14), (13, 15)]
def jjnCh : List (Nat × Option Nat) := [(1, some 48), (3, some 50), (5, some 52), (10, some 13), (11, none)]
def jjnVal (f : Ju.Fr) (la lb : List Ia.Ins) (A B9 : Option Addr) (c c9 : Nat) (r : Ju.Res) : Nat → Value
  | 0 => .slice A la.length c
  | 2 => .slice B9 lb.length c9
  | 4 => frAgg f
  | 6 => .tuple #[.agg #[.int .i64 r.dp, .int .i64 r.fu], .int .i64 r.er, .int .i64 r.at_]
  | 7 => .agg #[.int .i64 r.dp, .int .i64 r.fu]
  | 8 => .int .i64 r.er
  | 9 => .int .i64 r.at_
  | 12 => .int .i64 r.er
  | _ => .int .i64 r.at_
theorem RowIn.grown {w w' : World} {B : Nat} {v : Value} {t : TypeId} {cs : Array Value} {row : Option Nat} (h : RowIn w B v t cs) (hg : w.grownBy w' row) (hne : ∀ g, row = some g → v ≠ .pointer (some ⟨g, 0, none⟩)) : RowIn w' B v t cs := by
  obtain ⟨g', rfl, hb, hh⟩ := h
  exact ⟨g', rfl, hb, (hg.block _ (Array.getElem?_eq_some_iff.1 hh).1 (fun e => hne g' e.symm rfl)).trans hh⟩
def JjnC (B nn : Nat) (la lb : List Ia.Ins) (V : Value) (E : Array Value) (L : Nat → Bool) (vs : Nat → Value) (w : World) : Prop :=
  B ≤ w.heap.size ∧ (L 3 = true → L 1 = true) ∧ (L 5 = true → L 3 = true) ∧ (L 11 = true → L 10 = true ∧ L 5 = true) ∧
  (L 1 = true → L 3 = false → w.ownsRow B 40 2 (vs 48) la.length (insCells la)) ∧
  (L 3 = true → L 5 = false → ∃ A c, vs 50 = .slice A nn c ∧ InsAt w A (la ++ lb)) ∧
  (L 5 = true → vs 52 = V) ∧
  (L 10 = true → RowIn w B (vs 13) 28 (if L 11 = true then E else #[.int .i64 0, .int .i64 0])) ∧
  (L 1 = true → L 3 = false → L 10 = true → ∀ g, (vs 48).ownBlock = some g → vs 13 ≠ .pointer (some ⟨g, 0, none⟩))
theorem jjnRegion {Q : Exit → Act → World → Prop} (a0 : Act) (W0 : World) (hs : 55 < a0.tmps.size) (f : Ju.Fr) (la lb : List Ia.Ins) (A B9 : Option Addr) (c c9 gf nn : Nat) (r : Ju.Res) (hn : nn = la.length + lb.length) (hlen : la.length ≤ 300 ∧ lb.length ≤ 300) (hA : ISrc W0 A c la) (hB : ISrc W0 B9 c9 lb) (hf0 : W0.heap[gf]? = some (.cells #[.int .i64 f.sl, .int .i64 f.ol, .int .i64 f.nw, .int .i64 f.is, .int .i64 f.os] 24 (0, 0))) (hck : ∀ W A1 c1, InsAt W A1 (la ++ lb) → Calls Try.prog 10 #[.slice A1 nn c1, frAgg f] W fun e w' => e = .returned (.tuple #[.agg #[.int .i64 r.dp, .int .i64 r.fu], .int .i64 r.er, .int .i64 r.at_]) ∧ Below W.heap.size W w')
    (e0 : a0.eval (.tmp 0) = .slice A la.length c)
    (e1 : a0.eval (.tmp 1) = .slice B9 lb.length c9)
    (e5 : a0.eval (.tmp 5) = .pointer (some ⟨gf, 0, none⟩))
    (hQ : ∀ (vs : Nat → Value) w, Below W0.heap.size W0 w → (JjnC W0.heap.size nn la lb (.tuple #[.agg #[.int .i64 r.dp, .int .i64 r.fu], .int .i64 r.er, .int .i64 r.at_]) #[.int .i64 r.dp, .int .i64 r.fu]) (fun _ => true) vs w → Q .normal (jjnSlots.foldl (fun x p => x.put (some p.2) ((jjnVal f la lb A B9 c c9 r) p.1)) ([48, 50, 52, 13].foldl (fun x d => x.put (some d) (vs d)) a0)) w) :
    wpAny Try.prog .any jjnOps Q 14 (Array.replicate 14 false) a0 W0.drew := by
  have ok : slotsFix jjnSlots a0.tmps.size = true := by
    have : ∀ z, 55 < z → slotsFix jjnSlots z = true := by
      intro z hz
      simp [slotsFix, jjnSlots]
      try omega
    exact this _ hs
  have okc : chainOk jjnSlots jjnCh a0.tmps.size = true := by
    have : ∀ z, 55 < z → chainOk jjnSlots jjnCh z = true := by
      intro z hz
      simp [chainOk, jjnSlots, jjnCh]
      try omega
    exact this _ hs
  obtain ⟨i0, hi0, hi1, hi2, hi3⟩ := info_parts infoIns
  have lf : gf < W0.heap.size := (Array.getElem?_eq_some_iff.1 hf0).1
  have hsz : (Try.prog.info? 28).map (·.size) = some 2 := by kernel_rfl
  have hE1 : (#[.int .i64 r.dp, .int .i64 r.fu] : Array Value).all (·.oneCell') = true := by simp [Value.oneCell']
  refine region_chain (by kernel_rfl) W0 a0 jjnSlots (jjnVal f la lb A B9 c c9 r) jjnCh (JjnC W0.heap.size nn la lb (.tuple #[.agg #[.int .i64 r.dp, .int .i64 r.fu], .int .i64 r.er, .int .i64 r.at_]) #[.int .i64 r.dp, .int .i64 r.fu]) ok okc 14 (by kernel_rfl) (by kernel_rfl) (by kernel_rfl) (fun L L' vs w h hc => by have h1 := h (1, some 48) (by decide); have h3 := h (3, some 50) (by decide); have h5 := h (5, some 52) (by decide); have h10 := h (10, some 13) (by decide); have h11 := h (11, none) (by decide); unfold JjnC at *; simp only [← h1, ← h3, ← h5, ← h10, ← h11]; exact hc) (fun L vs w w' hc hb => by obtain ⟨a0, a1, a2, a3, a4, a5, a6, a7, a8⟩ := hc; exact ⟨Nat.le_trans a0 hb.size, a1, a2, a3, fun x y => own_below (a4 x y) hb, fun x y => by obtain ⟨A, c, e, hi⟩ := a5 x y; exact ⟨A, c, e, hi.below hb (Nat.le_refl _)⟩, a6, fun x => (a7 x).below hb, a8⟩) (by refine ⟨Nat.le_refl _, fun h => ?_, fun h => ?_, fun h => ?_, fun h => ?_, fun h => ?_, fun h => ?_, fun h => ?_, fun h => ?_⟩ <;> cases h) ?_ (fun vs w hb hc => hQ vs w hb hc)
  intro a1 i L a w hev h hc hi hf hneed
  replace e0 := (hev 0 rfl).trans e0
  replace e1 := (hev 1 rfl).trans e1
  replace e5 := (hev 5 rfl).trans e5
  rcases (show i = 0 ∨ i = 1 ∨ i = 2 ∨ i = 3 ∨ i = 4 ∨ i = 5 ∨ i = 6 ∨ i = 7 ∨ i = 8 ∨ i = 9 ∨ i = 10 ∨ i = 11 ∨ i = 12 ∨ i = 13 by omega) with rfl | rfl | rfl | rfl | rfl | rfl | rfl | rfl | rfl | rfl | rfl | rfl | rfl | rfl
  · refine .inl ?_
    exact fix_value (i := 0) (d := 47) rfl (wanted_none rfl) rfl (by decide) (x_move rfl ((h.old rfl).trans e0))
  · refine .inr ?_
    obtain ⟨a0, a1', a2, a3, a4, a5, a6, a7, a8⟩ := hc
    simp only [] at a1' a2 a3 a4 a5 a6 a7 a8
    have f3 : L.getD 3 false = false := by
      cases hq : L.getD 3 false with
      | false => rfl
      | true => exact absurd (a1' hq) (by simp [hf])
    have f5 : L.getD 5 false = false := by
      cases hq : L.getD 5 false with
      | false => rfl
      | true => exact absurd (a2 hq) (by simp [f3])
    have f11 : L.getD 11 false = false := by
      cases hq : L.getD 11 false with
      | false => rfl
      | true => exact absurd ((a3 hq).2) (by simp [f5])
    refine ⟨some 48, by decide, ch_call (i := 1) 9 Try.f9 #[.tmp 47] _ #[.slice A la.length c] rfl (wanted_none rfl) rfl (by simp [(h.get 0 47 (by decide) (hneed 0 (by kernel_rfl))), jjnVal]) Try.func9 (by kernel_rfl) (by kernel_rfl) ?_⟩
    refine (inlent la A c w (hA.below h.below (Nat.le_refl _)) (by omega)).mono ?_
    rintro e w' ⟨v, rfl, hown, hb⟩
    refine ⟨v, rfl, v, rfl, h.below.trans (hb.mono a0), Nat.le_trans a0 hb.size, fun x => ?_, fun x => ?_, fun x => ?_, fun _ _ => ?_, fun x y => ?_, fun x => ?_, fun x => ?_, fun _ _ x g hg => ?_⟩
    · simp only [Nat.reduceEqDiff, if_false, if_true, Option.some.injEq] at x ⊢
    · simp only [Nat.reduceEqDiff, if_false, if_true, Option.some.injEq] at x ⊢; rw [f5] at x; cases x
    · simp only [Nat.reduceEqDiff, if_false, if_true, Option.some.injEq] at x ⊢; rw [f11] at x; cases x
    · simp only [Nat.reduceEqDiff, if_false, if_true, Option.some.injEq]; exact own_base hown a0
    · simp only [Nat.reduceEqDiff, if_false, if_true, Option.some.injEq] at x; rw [f3] at x; cases x
    · simp only [Nat.reduceEqDiff, if_false, if_true, Option.some.injEq] at x; rw [f5] at x; cases x
    · simp only [Nat.reduceEqDiff, if_false, if_true, Option.some.injEq] at x ⊢; exact (a7 x).below hb
    · simp only [Nat.reduceEqDiff, if_false, if_true, Option.some.injEq] at x hg ⊢
      obtain ⟨g', e', _, hh⟩ := a7 x
      rw [e']
      intro e2
      injection e2 with e2; injection e2 with e2; injection e2 with e2
      have h1 := (hown.lt g hg).1
      have h2 := (Array.getElem?_eq_some_iff.1 hh).1
      omega
  · refine .inl ?_
    exact fix_value (i := 2) (d := 49) rfl (wanted_none rfl) rfl (by decide) (x_move rfl ((h.old rfl).trans e1))
  · refine .inr ?_
    obtain ⟨a0, a1', a2, a3, a4, a5, a6, a7, a8⟩ := hc
    simp only [] at a1' a2 a3 a4 a5 a6 a7 a8
    have f5 : L.getD 5 false = false := by
      cases hq : L.getD 5 false with
      | false => rfl
      | true => exact absurd (a2 hq) (by simp [hf])
    have f11 : L.getD 11 false = false := by
      cases hq : L.getD 11 false with
      | false => rfl
      | true => exact absurd ((a3 hq).2) (by simp [f5])
    have n1 := hneed 1 (by kernel_rfl)
    refine ⟨some 50, by decide, ch_oper (i := 3) rfl (wanted_none rfl) ?_⟩
    refine wp_app_any (.tmp 48) (.tmp 49) 22 rfl W0.heap.size 40 i0 (.agg #[.int .i64 0, .int .i32 0]) 2 16 Try.underlying22 hi0 hi1 hi2 hi3 rfl (by decide) (a1.eval (.tmp 48)) la.length (insCells la) (h.old rfl) (a4 n1 hf) B9 lb.length c9 (insCells lb) (h.get 2 49 (by decide) (hneed 2 (by kernel_rfl))) (hB.below h.below (Nat.le_refl _)) (insCells_one lb) (by unfold maxLen; omega) (by omega) a0 ?_
    intro v' w' hown hg
    rw [← insCells_append] at hown
    have hb5 : Below W0.heap.size W0 w' := h.below.trans ((Below.refl _ _).grown hg a0 (fun g hg => ((a4 n1 hf).lt g hg).1))
    refine ⟨_, rfl, hb5, hb5.size, fun x => ?_, fun x => ?_, fun x => ?_, fun x y => ?_, fun _ _ => ?_, fun x => ?_, fun x => ?_, fun x y => ?_⟩
    · simp only [Nat.reduceEqDiff, if_false, if_true, Option.some.injEq]; exact n1
    · simp only [Nat.reduceEqDiff, if_false, if_true, Option.some.injEq] at x ⊢
    · simp only [Nat.reduceEqDiff, if_false, if_true, Option.some.injEq] at x ⊢; rw [f11] at x; cases x
    · simp only [Nat.reduceEqDiff, if_false, if_true, Option.some.injEq] at y; cases y
    · simp only [Nat.reduceEqDiff, if_false, if_true, Option.some.injEq]
      obtain ⟨A9, c8, rfl⟩ := own_slice hown
      have hl : (la ++ lb).length = la.length + lb.length := List.length_append
      exact ⟨A9, c8, by rw [hn], InsAt.of_own (by rw [hl]; exact hown)⟩
    · simp only [Nat.reduceEqDiff, if_false, if_true, Option.some.injEq] at x; rw [f5] at x; cases x
    · simp only [Nat.reduceEqDiff, if_false, if_true, Option.some.injEq] at x ⊢
      exact (a7 x).grown hg (fun g hg => a8 n1 hf x g hg)
    · simp only [Nat.reduceEqDiff, if_false, if_true, Option.some.injEq] at y; cases y
  · refine .inl ?_
    exact fix_value (i := 4) (d := 51) rfl (wanted_none rfl) rfl (by decide) (x_load_row (cs := [.int .i64 f.sl, .int .i64 f.ol, .int .i64 f.nw, .int .i64 f.is, .int .i64 f.os]) (n := 5) rfl ((h.old rfl).trans e5) ((h.below.block _ lf).trans hf0) Try.underlying24 rfl (by kernel_rfl) rfl)
  · refine .inr ?_
    obtain ⟨a0, a1', a2, a3, a4, a5, a6, a7, a8⟩ := hc
    simp only [] at a1' a2 a3 a4 a5 a6 a7 a8
    have f11 : L.getD 11 false = false := by
      cases hq : L.getD 11 false with
      | false => rfl
      | true => exact absurd ((a3 hq).2) (by simp [hf])
    have n3 := hneed 3 (by kernel_rfl)
    obtain ⟨A9, c8, e9, hi9⟩ := a5 n3 hf
    refine ⟨some 52, by decide, ch_call (i := 5) 10 Try.f10 #[.tmp 50, .tmp 51] _ #[.slice A9 nn c8, frAgg f] rfl (wanted_none rfl) rfl (by simp [(h.old rfl).trans e9, (h.get 4 51 (by decide) (hneed 4 (by kernel_rfl))), jjnVal]) Try.func10 (by kernel_rfl) (by kernel_rfl) ?_⟩
    refine (hck w A9 c8 hi9).mono ?_
    rintro e w' ⟨rfl, hb⟩
    refine ⟨_, rfl, _, rfl, h.below.trans (hb.mono a0), Nat.le_trans a0 hb.size, fun x => ?_, fun x => ?_, fun x => ?_, fun x y => ?_, fun x y => ?_, fun _ => ?_, fun x => ?_, fun x y z => ?_⟩
    · simp only [Nat.reduceEqDiff, if_false, if_true, Option.some.injEq] at x ⊢; exact a1' x
    · simp only [Nat.reduceEqDiff, if_false, if_true, Option.some.injEq]; exact n3
    · simp only [Nat.reduceEqDiff, if_false, if_true, Option.some.injEq] at x ⊢; rw [f11] at x; cases x
    · simp only [Nat.reduceEqDiff, if_false, if_true, Option.some.injEq] at x y ⊢; rw [n3] at y; cases y
    · simp only [Nat.reduceEqDiff, if_false, if_true, Option.some.injEq] at y; cases y
    · simp only [Nat.reduceEqDiff, if_false, if_true, Option.some.injEq]
    · simp only [Nat.reduceEqDiff, if_false, if_true, Option.some.injEq] at x ⊢; exact (a7 x).below hb
    · simp only [Nat.reduceEqDiff, if_false, if_true, Option.some.injEq] at y; rw [n3] at y; cases y
  · refine .inl ?_
    exact fix_value (i := 6) (d := 46) rfl (wanted_none rfl) rfl (by decide) (x_move rfl ((h.old rfl).trans (hc.2.2.2.2.2.2.1 (hneed 5 (by kernel_rfl)))))
  · refine .inl ?_
    exact fix_value (i := 7) (d := 53) rfl (wanted_none rfl) rfl (by decide) (x_extract rfl (h.get 6 46 (by decide) (hneed 6 (by kernel_rfl))) rfl)
  · refine .inl ?_
    exact fix_value (i := 8) (d := 54) rfl (wanted_none rfl) rfl (by decide) (x_extract rfl (h.get 6 46 (by decide) (hneed 6 (by kernel_rfl))) rfl)
  · refine .inl ?_
    exact fix_value (i := 9) (d := 55) rfl (wanted_none rfl) rfl (by decide) (x_extract rfl (h.get 6 46 (by decide) (hneed 6 (by kernel_rfl))) rfl)
  · refine .inr ?_
    obtain ⟨a0, a1', a2, a3, a4, a5, a6, a7, a8⟩ := hc
    simp only [] at a1' a2 a3 a4 a5 a6 a7 a8
    have f11 : L.getD 11 false = false := by
      cases hq : L.getD 11 false with
      | false => rfl
      | true => exact absurd ((a3 hq).1) (by simp [hf])
    refine ⟨some 13, by decide, ch_value (i := 10) (v := .pointer (some ⟨w.heap.size, 0, none⟩)) (w' := w.alloc (.cells #[.int .i64 0, .int .i64 0] 28)) rfl (wanted_none rfl) (x_alloc rfl (by simp [go_sem])) ⟨_, rfl, h.below.alloc a0 _, ?_⟩⟩
    have hba : Below w.heap.size w (w.alloc (.cells #[.int .i64 0, .int .i64 0] 28)) := (Below.refl _ _).alloc (Nat.le_refl _) _
    refine ⟨Nat.le_trans a0 hba.size, fun x => ?_, fun x => ?_, fun x => ?_, fun x y => ?_, fun x y => ?_, fun x => ?_, fun _ => ?_, fun x y _ g hg => ?_⟩
    · simp only [Nat.reduceEqDiff, if_false, if_true, Option.some.injEq] at x ⊢; exact a1' x
    · simp only [Nat.reduceEqDiff, if_false, if_true, Option.some.injEq] at x ⊢; exact a2 x
    · simp only [Nat.reduceEqDiff, if_false, if_true, Option.some.injEq] at x ⊢; rw [f11] at x; cases x
    · simp only [Nat.reduceEqDiff, if_false, if_true, Option.some.injEq] at x y ⊢; exact own_below (a4 x y) hba
    · simp only [Nat.reduceEqDiff, if_false, if_true, Option.some.injEq] at x y ⊢
      obtain ⟨A9, c8, e9, hi9⟩ := a5 x y
      exact ⟨A9, c8, e9, hi9.below hba (Nat.le_refl _)⟩
    · simp only [Nat.reduceEqDiff, if_false, if_true, Option.some.injEq] at x ⊢; exact a6 x
    · simp only [Nat.reduceEqDiff, if_false, if_true, Option.some.injEq]
      rw [f11]
      exact ⟨w.heap.size, rfl, a0, heap_alloc_new _ _⟩
    · simp only [Nat.reduceEqDiff, if_false, if_true, Option.some.injEq] at x y hg ⊢
      intro e2
      injection e2 with e2; injection e2 with e2; injection e2 with e2
      have h1 := ((a4 x y).lt g hg).2
      omega
  · refine .inr ?_
    obtain ⟨a0, a1', a2, a3, a4, a5, a6, a7, a8⟩ := hc
    simp only [] at a1' a2 a3 a4 a5 a6 a7 a8
    have n10 := hneed 10 (by kernel_rfl)
    have n7 := h.get 7 53 (by decide) (hneed 7 (by kernel_rfl))
    obtain ⟨g, eg, hg, hh⟩ := a7 n10
    rw [if_neg (by rw [hf]; decide)] at hh
    have n5 := hneed 5 (by kernel_rfl)
    refine ⟨none, by decide, ch_oper (i := 11) rfl (wanted_none rfl) ?_⟩
    refine wp_store_row _ _ _ rfl g #[.int .i64 r.dp, .int .i64 r.fu] ((h.old rfl).trans eg) n7 _ _ hh (by rw [hsz]; rfl) rfl hE1 ?_
    refine ⟨undef, rfl, below_setRow_ h.below hg, by rw [size_setRow]; exact a0, fun x => a1' x, fun x => a2 x, fun _ => ⟨n10, n5⟩, fun x y => ?_, fun x y => ?_, fun x => a6 x, fun _ => ?_, fun x y z => a8 x y z⟩
    · exact absurd (a2 n5) (by simp only [Nat.reduceEqDiff, if_false, if_true, Option.some.injEq] at y; simp [y])
    · exact absurd n5 (by simp only [Nat.reduceEqDiff, if_false, if_true, Option.some.injEq] at y; simp [y])
    · exact ⟨g, eg, hg, setRow_heap _ _ _ _ _ _ hh⟩
  · refine .inl ?_
    exact fix_value (i := 12) (d := 14) rfl (wanted_none rfl) rfl (by decide) (x_assign rfl (h.get 8 54 (by decide) (hneed 8 (by kernel_rfl))))
  · refine .inl ?_
    exact fix_value (i := 13) (d := 15) rfl (wanted_none rfl) rfl (by decide) (x_assign rfl (h.get 9 55 (by decide) (hneed 9 (by kernel_rfl))))
end Go.Proofs.Ytlfbpcjeohbfkaa
