/-
  A program's head: plain lemmas.
  The head's statement that reads an own variable and appends it, drawn; twice.
-/
import Derived.Test.YtilkilffkjhhbaaTrQ5
import Derived.Test.YtilkilffkjhhbaaRgn
import Derived.Great.BuildSlice
namespace Go.Proofs.Ytilkilffkjhhbaa
set_option maxRecDepth 20000
set_option linter.unusedVariables false
open Go.RowKit Tr Mem

theorem token_lt {ts : List Lx.Tok} {s : St} {k : Int} (h : (token ts s k).2.bad = false) : s.at_ < ts.length := by
  unfold token at h
  split at h
  · rename_i hs; exact (isKind_lt hs).2
  · cases h
theorem declP_lt {ts : List Lx.Tok} {s : St} (h : (declP ts s).2.bad = false) : s.at_ < ts.length := by
  unfold declP at h
  split at h
  · have hb : (need ts (name ts s).2 [58]).bad = false := h
    exact token_lt (k := 1) (need_ok hb).1
  · have hb := (need_ok h).1
    exact token_lt (k := 1) (need_ok hb).1
theorem ownP_lt {ts : List Lx.Tok} {s : St} (h : (ownP ts s).2.bad = false) : s.at_ < ts.length := by
  unfold ownP at h
  split at h
  · rename_i hs
    exact Nat.lt_of_le_of_lt (declP_at s) (sees_lt hs).2
  · split at h
    · rename_i hs
      exact Nat.lt_of_le_of_lt (declP_at s) (sees_lt hs).2
    · exact declP_lt (need_ok h).1
theorem ownP_at (ts : List Lx.Tok) (s : St) : s.at_ ≤ (ownP ts s).2.at_ := by
  have h0 := declP_at (ts := ts) s
  have h1 := name_at (ts := ts) (declP ts s).2.adv
  have h2 := need_at (ts := ts) (name ts (declP ts s).2.adv).2 [59]
  have h3 := need_at (ts := ts) (declP ts s).2 [59]
  rw [adv_at] at h1
  unfold ownP
  split
  · simp only; omega
  · split <;> (simp only; omega)
theorem ownsF_fuel (ts : List Lx.Tok) : ∀ (f g : Nat) (s : St), ts.length - s.at_ < f → ts.length - s.at_ < g → ownsF ts f s = ownsF ts g s
  | 0, _, s, h, _ => by omega
  | _ + 1, 0, s, _, h => by omega
  | f + 1, g + 1, s, h1, h2 => by
    rw [ownsF, ownsF]
    split
    · rfl
    · rename_i hs
      have hb : (ownP ts s).2.bad = false := by
        rcases hq : (ownP ts s).2.bad with _ | _
        · rfl
        · rw [hq] at hs; exact (hs rfl).elim
      have hl := ownP_lt hb
      have hk := ownP_ok hb
      rw [ownsF_fuel ts f g _ (by omega) (by omega)]
/-- declarations behind one -/
def restO (ts : List Lx.Tok) (s : St) : List Vr × St := if s.bad || sees ts s wLet then ([], s) else ownsL ts s
theorem ownsL_rest (ts : List Lx.Tok) (s : St) : ownsL ts s = ((ownP ts s).1 :: (restO ts (ownP ts s).2).1, (restO ts (ownP ts s).2).2) := by
  unfold restO
  show ownsF ts (ts.length - s.at_ + 1) s = _
  rw [ownsF]
  split
  · rfl
  · rename_i hs
    have hb : (ownP ts s).2.bad = false := by
      rcases hq : (ownP ts s).2.bad with _ | _
      · rfl
      · rw [hq] at hs; exact (hs rfl).elim
    have hl := ownP_lt hb
    have hk := ownP_ok hb
    have e : ownsF ts (ts.length - s.at_) (ownP ts s).2 = ownsL ts (ownP ts s).2 := ownsF_fuel ts _ _ _ (by omega) (by omega)
    rw [e]
def boolOf : Value → Bool
  | .bool b => b
  | _ => false
/-- how far it is to the end, and whether it is bad -/
def meas (w : World) (bp n : Nat) : Nat := (n - atOf w bp) * 2 + (if ((w.cell? ⟨bp, 2, none⟩).map boolOf).getD false then 0 else 1)
theorem RowAt.meas {w : World} {bp : Nat} {ty : TypeId} {A : Option Addr} {c : Nat} {ts : List Lx.Tok} {s : St} (h : RowAt w bp ty A c ts s) (n : Nat) : meas w bp n = (n - s.at_) * 2 + (if s.bad then 0 else 1) := by
  unfold Go.Proofs.Ytilkilffkjhhbaa.meas
  rw [h.atOf, h.cells.2.2.1]
  rfl
/-- a program's own cells -/
def pgCells (n : Lx.Bs) (vi vo vl ve : Value) : List Value := [.string ⟨n.toArray⟩, vi, vo, vl, ve]
def zpg : Array Value := #[.string ⟨#[]⟩, .slice none 0 0, .slice none 0 0, .slice none 0 0, .slice none 0 0]
theorem infoPg : (Try.prog.info? 26).map (·.size) = some 5 := by kernel_rfl
theorem set1_rowk {W : World} {g k : Nat} {cs : Array Value} {t : TypeId} (hg : W.heap[g]? = some (.cells cs t (0, 0))) (x : Value) : (W.setCell ⟨g, k, none⟩ x).heap[g]? = some (.cells (cs.setIfInBounds k x) t (0, 0)) :=
  heap_setCell_same _ g k _ _ _ hg
theorem row5 {W : World} {g : Nat} {a b c d e : Value} {t : TypeId} (hg : W.heap[g]? = some (.cells #[a, b, c, d, e] t (0, 0))) :
    (W.cell? ⟨g, 1, none⟩ = some b ∧ W.cell? ⟨g, 2, none⟩ = some c ∧ W.cell? ⟨g, 3, none⟩ = some d ∧ W.cell? ⟨g, 4, none⟩ = some e) ∧
    W.frozen? ⟨g, 1, none⟩ = false ∧ W.frozen? ⟨g, 2, none⟩ = false ∧ W.frozen? ⟨g, 3, none⟩ = false ∧ W.frozen? ⟨g, 4, none⟩ = false :=
  ⟨⟨cell_of_row W g 1 _ _ _ hg, cell_of_row W g 2 _ _ _ hg, cell_of_row W g 3 _ _ _ hg, cell_of_row W g 4 _ _ _ hg⟩,
   frozen_of_row W g 1 _ _ hg, frozen_of_row W g 2 _ _ hg, frozen_of_row W g 3 _ _ hg, frozen_of_row W g 4 _ _ hg⟩
/-- what a row of the call's own is kept by -/
theorem own_grown {w w' : World} {base g size n : Nat} {e : TypeId} {v : Value} {xs : List Value} (h : w.ownsRow base e size v n xs) (hg : w.grownBy w' (some g)) (hne : ∀ k, v.ownBlock = some k → k ≠ g) : w'.ownsRow base e size v n xs := by
  refine ⟨h.1, ?_⟩
  rcases h.2 with h2 | ⟨b, cap, cur, rfl, hb, hh, r⟩
  · exact .inl h2
  · exact .inr ⟨b, cap, cur, rfl, hb, (hg.block b (Array.getElem?_eq_some_iff.1 hh).1 (fun e => hne b rfl (by injection e))).trans hh, r⟩
def HeadPost (w : World) (bp : Nat) (A : Option Addr) (c : Nat) (ts : List Lx.Tok) (r : Pg × St) (e : Ending) (w' : World) : Prop :=
  ∃ vi vo vl, e = .returned (.agg (pgCells r.1.name vi vo vl (.slice none 0 0)).toArray) ∧ w'.ownsRow w.heap.size 73 4 vi r.1.ins.length (varsCells r.1.ins) ∧
    w'.ownsRow w.heap.size 73 4 vo r.1.outs.length (varsCells r.1.outs) ∧ w'.ownsRow w.heap.size 73 4 vl r.1.locals.length (varsCells r.1.locals) ∧ Took w bp 61 A c ts r.2 w'
end Go.Proofs.Ytilkilffkjhhbaa
namespace Go.Proofs.Ytilkilffkjhhbaa
set_option maxRecDepth 20000
set_option linter.unusedVariables false
open Go.RowKit Tr Mem

theorem wpAny_ops {P : Program} {md : Region.Mode} {ops ops' : Array Oper} {Q : Exit → Act → World → Prop} {f : Nat} {L : Array Bool} {a : Act} {w : World} (h : ops' = ops) (h2 : wpAny P md ops' Q f L a w) : wpAny P md ops Q f L a w := h ▸ h2
section
variable {P : Program} {o : Oper} {a : Act} {w : World} {K : Act → World → Prop} {Q : Exit → Act → World → Prop}
theorem run_store1s (ty : TypeId) (g j : Nat) (A : Option Addr) (n c : Nat) {cs : Array Value} {t : TypeId} (hg : w.heap[g]? = some (.cells cs t (0, 0))) (hj : j < cs.size) (hi : (P.info? ty).map (·.size) = some 1) :
    (storeVar ty ⟨g, j, none⟩ (.slice A n c)).run P w = .ok () (w.setCell ⟨g, j, none⟩ (.slice A n c)) := by
  have hc : w.cell? ⟨g, j, none⟩ = some cs[j] := by rw [cell_of_row w g j _ _ (0, 0) hg, Array.getElem?_eq_getElem hj]
  have hf := frozen_of_row w g j _ _ hg
  cases hq : P.info? ty with
  | none => simp [hq] at hi
  | some i =>
    have hs : i.size = 1 := by simpa [hq] using hi
    simp [storeVar, sizeOf, typeInfo, hq, Value.cells, hs, storeCells, stored, hc, hf, go_sem, Addr.add]
theorem wp_store_slice (ty : TypeId) (x y : Operand) (ho : o.op = .store ty x y) (g j : Nat) (A : Option Addr) (n c : Nat) (hx : a.eval x = .pointer (some ⟨g, j, none⟩)) (hy : a.eval y = .slice A n c)
    {cs : Array Value} {t : TypeId} (hg : w.heap[g]? = some (.cells cs t (0, 0))) (hj : j < cs.size) (hi : (P.info? ty).map (·.size) = some 1) (h : K (a.put o.dst undef) (w.setCell ⟨g, j, none⟩ (.slice A n c))) : o.wp P a w K Q := by
  unfold Oper.wp execOp
  simp only [ho, hx, hy, Instr.storeAt, Instr.sureAddr, Sem.run_bind, Sem.run_pure, Result.andThen_ok, run_store1s ty g j A n c hg hj hi]
  exact h
end
theorem fill_var (v : Vr) : Instr.fill (fun i => some (i * 4, 4)) ((Array.range (1 * 4)).map ((Value.agg #[.string ⟨#[]⟩, .int .i64 0, .int .i64 0, .string ⟨#[]⟩]).cells[· % (Value.agg #[.string ⟨#[]⟩, .int .i64 0, .int .i64 0, .string ⟨#[]⟩]).cells.size]!)) [(0, varAgg v)] = some (varCells v).toArray := by
  first | kernel_rfl | simp [Instr.fill, varAgg, varCells, Value.cells] | (simp [Instr.fill, varAgg, varCells, Value.cells]; rfl)
set_option linter.unusedVariables false
/-- blocks below base are kept, but for two -/
structure KeptBut (base gm bp : Nat) (W0 w : World) : Prop where
  size : W0.heap.size ≤ w.heap.size
  block : ∀ b, b < base → b ≠ gm → b ≠ bp → w.heap[b]? = W0.heap[b]?
theorem KeptBut.below {base gm bp : Nat} {W0 w w' : World} (h : KeptBut base gm bp W0 w) (hb : Below w.heap.size w w') (hB : base ≤ W0.heap.size) : KeptBut base gm bp W0 w' :=
  ⟨Nat.le_trans h.size hb.size, fun b h1 h2 h3 => (hb.block b (by have := h.size; omega)).trans (h.block b h1 h2 h3)⟩
/-- what holds while it is carried out -/
def HdC (wo W0 : World) (bp : Nat) (A : Option Addr) (c : Nat) (ts : List Lx.Tok) (s1 s2 : St) (gm k base : Nat) (R : Array Value) (V : Value) (xs : List Value) (ov : Vr) (sL sO sB sA : Nat) (L : Nat → Bool) (vs : Nat → Value) (w : World) : Prop :=
  KeptBut base gm bp W0 w ∧ (L 5 = true → L 1 = true ∧ L 4 = true) ∧ (L 7 = true → L 5 = true) ∧ (L 4 = true → L 3 = true) ∧
  (L 1 = true → vs sL = V) ∧ (L 3 = true → vs sO = varAgg ov) ∧
  (L 5 = false → w.ownsRow base 73 4 V k xs) ∧
  (L 4 = true → L 5 = false → ∃ g, vs sB = .slice (some ⟨g, 0, none⟩) 1 1 ∧ w.heap[g]? = some (.cells (varCells ov).toArray 73 (0, 0)) ∧ W0.heap.size ≤ g) ∧
  (L 5 = true → w.ownsRow base 73 4 (vs sA) (k + 1) (xs ++ varCells ov)) ∧
  w.heap[gm]? = some (.cells (if L 7 = true then R.setIfInBounds 3 (vs sA) else R) 26 (0, 0)) ∧
  Took wo bp 61 A c ts (if L 3 = true then s2 else s1) w

noncomputable def hdaOps : Array Oper := findOps 8 ((Try.f31).body.getD (.exit 0))
def hdaSlots : List (Nat × Nat) := [(0, 31), (2, 33), (6, 37)]
def hdaCh : List (Nat × Option Nat) := [(1, some 32), (3, some 34), (4, some 35), (5, some 36), (7, none)]
def hdaVal (gm bp : Nat) : Nat → Value
  | 0 => .pointer (some ⟨gm, 3, none⟩)
  | 2 => .pointer (some ⟨bp, 0, none⟩)
  | _ => .pointer (some ⟨gm, 3, none⟩)
set_option maxHeartbeats 4000000 in
theorem hdaRegion {Q : Exit → Act → World → Prop} (a0 : Act) (wo W0 : World) (hs : 37 < a0.tmps.size) (bp : Nat) (A : Option Addr) (c : Nat) (ts : List Lx.Tok) (s0 s1 s2 : St) (gm k base : Nat) (R : Array Value) (V : Value) (xs : List Value) (ov : Vr)
    (hR0 : RowAt wo bp 61 A c ts s0) (hRs : R.size = 5) (hR3 : R[3]? = some V) (hgm : gm < base) (hbp : bp < wo.heap.size) (hwo : wo.heap.size ≤ gm) (hbase : base ≤ W0.heap.size) (hk : k ≤ 1000000) (hrow : W0.heap[gm]? = some (.cells R 26 (0, 0))) (hown : W0.ownsRow base 73 4 V k xs)
    (hto : Took wo bp 61 A c ts s1 W0)
    (hcall : ∀ W, RowAt W bp 61 A c ts s1 → Calls Try.prog 66 #[.pointer (some ⟨bp, 0, none⟩)] W (DeclPost W bp 61 A c ts (ov, s2)))
    (e0 : a0.eval (.tmp 0) = .pointer (some ⟨bp, 0, none⟩)) (e3 : a0.eval (.tmp 3) = .pointer (some ⟨gm, 0, none⟩))
    (hQ : ∀ (vs : Nat → Value) w, (HdC wo W0 bp A c ts s1 s2 gm k base R V xs ov 32 34 35 36) (fun _ => true) vs w → Q .normal (hdaSlots.foldl (fun x p => x.put (some p.2) ((hdaVal gm bp) p.1)) ([32, 34, 35, 36].foldl (fun x d => x.put (some d) (vs d)) a0)) w) :
    wpAny Try.prog .any hdaOps Q 8 (Array.replicate 8 false) a0 W0.drew := by
  have ok : slotsFix hdaSlots a0.tmps.size = true := by
    have : ∀ z, 37 < z → slotsFix hdaSlots z = true := by
      intro z hz
      simp [slotsFix, hdaSlots]
      try omega
    exact this _ hs
  have okc : chainOk hdaSlots hdaCh a0.tmps.size = true := by
    have : ∀ z, 37 < z → chainOk hdaSlots hdaCh z = true := by
      intro z hz
      simp [chainOk, hdaSlots, hdaCh]
      try omega
    exact this _ hs
  obtain ⟨i0, hi0, hi1, hi2, hi3⟩ := info_parts infoVr
  have hsz23 : (Try.prog.info? 23).map (·.size) = some 1 := by kernel_rfl
  have hdrew : Below W0.heap.size W0 W0.drew := (Below.refl _ _).drew
  refine region_chain2 (by kernel_rfl) W0 a0 hdaSlots (hdaVal gm bp) hdaCh (HdC wo W0 bp A c ts s1 s2 gm k base R V xs ov 32 34 35 36) ok okc 8 (by kernel_rfl) (by kernel_rfl) (by kernel_rfl)
    (fun L L' vs w h hc => by have h1 := h (1, some 32) (by decide); have h2 := h (3, some 34) (by decide); have h3 := h (4, some 35) (by decide); have h4 := h (5, some 36) (by decide); have h5 := h (7, none) (by decide); unfold HdC at *; simp only [← h1, ← h2, ← h3, ← h4, ← h5]; exact hc)
    (fun L vs w w' hc hb => by obtain ⟨a0, a1, a2, a3, a4, a5, a6, a7, a8, a9, a10⟩ := hc; exact ⟨a0.below hb hbase, a1, a2, a3, a4, a5, fun y => Mem.own_below (a6 y) hb, fun y z => by obtain ⟨g, e, hh, hl⟩ := a7 y z; exact ⟨g, e, (hb.block _ (Array.getElem?_eq_some_iff.1 hh).1).trans hh, hl⟩, fun y => Mem.own_below (a8 y) hb, (hb.block _ (Array.getElem?_eq_some_iff.1 a9).1).trans a9, a10.below hb⟩)
    (by refine ⟨⟨Nat.le_refl _, fun _ _ _ _ => rfl⟩, fun h => (by cases h), fun h => (by cases h), fun h => (by cases h), fun h => (by cases h), fun h => (by cases h), fun _ => hown, fun h => (by cases h), fun h => (by cases h), hrow, hto.below hdrew⟩) ?_ (fun vs w hc => hQ vs w hc)
  intro a1 i L a w hev h hc hi hf hneed
  replace e0 := (hev 0 rfl).trans e0
  replace e3 := (hev 3 rfl).trans e3
  obtain ⟨b0, b1, b2, b3, b4, b5, b6, b7, b8, b9, b10⟩ := hc
  simp only [] at b1 b2 b3 b4 b5 b6 b7 b8 b9 b10
  rcases (show i = 0 ∨ i = 1 ∨ i = 2 ∨ i = 3 ∨ i = 4 ∨ i = 5 ∨ i = 6 ∨ i = 7 by omega) with rfl | rfl | rfl | rfl | rfl | rfl | rfl | rfl
  · refine .inl ?_
    exact fix_value (i := 0) (d := 31) rfl (wanted_none rfl) rfl (by decide) (x_field rfl ((h.old rfl).trans e3) (by simp [go_sem]))
  · refine .inr ?_
    have f5 : L.getD 5 false = false := by
      cases hq : L.getD 5 false with
      | false => rfl
      | true => exact absurd ((b1 hq).1) (by simp [hf])
    have f7 : L.getD 7 false = false := by
      cases hq : L.getD 7 false with
      | false => rfl
      | true => exact absurd (b2 hq) (by simp [f5])
    have hb0 := b9
    rw [if_neg (by rw [f7]; decide)] at hb0
    have hh0 : w.cell? ⟨gm, 3, none⟩ = some V := by rw [cell_of_row w gm 3 _ _ (0, 0) hb0]; exact hR3
    refine ⟨some 32, by decide, ch_value (i := 1) (v := V) (w' := w) rfl (wanted_none rfl) (x_load rfl (h.get 0 31 (by decide) (hneed 0 (by kernel_rfl))) (by first | (simp [go_sem, hh0]; done) | (simp [go_sem, hh0]; rfl))) ⟨V, rfl, b0, fun y => ?_, fun y => ?_, fun y => ?_, fun _ => ?_, fun y => ?_, fun y => ?_, fun y z => ?_, fun y => ?_, ?_, ?_⟩⟩
    · simp only [Nat.reduceEqDiff, if_false] at y; rw [f5] at y; cases y
    · simp only [Nat.reduceEqDiff, if_false] at y; rw [f7] at y; cases y
    · simp only [Nat.reduceEqDiff, if_false] at y ⊢; exact b3 y
    · rfl
    · simp only [Nat.reduceEqDiff, if_false, Option.some.injEq] at y ⊢; exact b5 y
    · exact b6 f5
    · simp only [Nat.reduceEqDiff, if_false, Option.some.injEq] at y ⊢; exact b7 y f5
    · simp only [Nat.reduceEqDiff, if_false] at y; rw [f5] at y; cases y
    · simp only [Nat.reduceEqDiff, if_false, Option.some.injEq]; rw [f7]; exact hb0
    · simp only [Nat.reduceEqDiff, if_false]; exact b10
  · refine .inl ?_
    exact fix_value (i := 2) (d := 33) rfl (wanted_none rfl) rfl (by decide) (x_move rfl ((h.old rfl).trans e0))
  · refine .inr ?_
    have f4 : L.getD 4 false = false := by
      cases hq : L.getD 4 false with
      | false => rfl
      | true => exact absurd (b3 hq) (by simp [hf])
    have f5 : L.getD 5 false = false := by
      cases hq : L.getD 5 false with
      | false => rfl
      | true => exact absurd ((b1 hq).2) (by simp [f4])
    have f7 : L.getD 7 false = false := by
      cases hq : L.getD 7 false with
      | false => rfl
      | true => exact absurd (b2 hq) (by simp [f5])
    have hb0 := b9
    rw [if_neg (by rw [f7]; decide)] at hb0
    rw [if_neg (by rw [hf]; decide)] at b10
    refine ⟨some 34, by decide, ch_call (i := 3) 66 Try.f66 #[.tmp 33] _ #[.pointer (some ⟨bp, 0, none⟩)] rfl (wanted_none rfl) rfl (by simp [(h.get 2 33 (by decide) (hneed 2 (by kernel_rfl))), hdaVal]) Try.func66 (by kernel_rfl) (by kernel_rfl) ?_⟩
    refine (hcall w b10.1).mono ?_
    rintro e w' ⟨rfl, hk⟩
    refine ⟨_, rfl, _, rfl, ⟨Nat.le_trans b0.size hk.2.size, fun b h1 h2 h3 => (hk.2.block b (by have := b0.size; omega) (fun e => h3 (by injection e))).trans (b0.block b h1 h2 h3)⟩, fun y => ?_, fun y => ?_, fun y => ?_, fun y => ?_, fun y => ?_, fun y => ?_, fun y z => ?_, fun y => ?_, ?_, ?_⟩
    · simp only [Nat.reduceEqDiff, if_false] at y; rw [f5] at y; cases y
    · simp only [Nat.reduceEqDiff, if_false] at y; rw [f7] at y; cases y
    · simp only [if_true]
    · simp only [Nat.reduceEqDiff, if_false, Option.some.injEq] at y ⊢; exact b4 y
    · simp only [if_true]
    · exact own_took (b6 f5) hk (by omega)
    · simp only [Nat.reduceEqDiff, if_false] at y; rw [f4] at y; cases y
    · simp only [Nat.reduceEqDiff, if_false] at y; rw [f5] at y; cases y
    · simp only [Nat.reduceEqDiff, if_false, Option.some.injEq]; rw [f7]; exact hk.row hb0 (by omega)
    · simp only [if_true]; exact b10.trans hk
  · refine .inr ?_
    have f5 : L.getD 5 false = false := by
      cases hq : L.getD 5 false with
      | false => rfl
      | true => exact absurd ((b1 hq).2) (by simp [hf])
    have f7 : L.getD 7 false = false := by
      cases hq : L.getD 7 false with
      | false => rfl
      | true => exact absurd (b2 hq) (by simp [f5])
    have hb0 := b9
    rw [if_neg (by rw [f7]; decide)] at hb0
    have n3 := hneed 3 (by kernel_rfl)
    have hba : Below w.heap.size w (w.alloc (.cells (varCells ov).toArray 73)) := (Below.refl _ _).alloc (Nat.le_refl _) _
    refine ⟨some 35, by decide, ch_oper (i := 4) rfl (wanted_none rfl) ?_⟩
    refine wp_buildSlice 23 73 1 #[(0, .tmp 34)] rfl (varCells ov).toArray i0 (.agg #[.string ⟨#[]⟩, .int .i64 0, .int .i64 0, .string ⟨#[]⟩]) Try.underlying23 hi0 hi1 (by rw [hi2]; decide) (by rw [hi2]; decide) (by rw [hi2]; simp only [List.map_toArray, List.map_cons, List.map_nil]; rw [show a.eval (.tmp 34) = varAgg ov from (h.old rfl).trans (b5 n3)]; exact fill_var ov) ?_
    refine ⟨_, rfl, b0.below hba hbase, fun y => ?_, fun y => ?_, fun y => ?_, fun y => ?_, fun y => ?_, fun y => ?_, fun y z => ?_, fun y => ?_, ?_, ?_⟩
    · simp only [Nat.reduceEqDiff, if_false] at y; rw [f5] at y; cases y
    · simp only [Nat.reduceEqDiff, if_false] at y; rw [f7] at y; cases y
    · simp only [Nat.reduceEqDiff, if_false]; exact n3
    · simp only [Nat.reduceEqDiff, if_false, Option.some.injEq] at y ⊢; exact b4 y
    · simp only [Nat.reduceEqDiff, if_false, Option.some.injEq] at y ⊢; exact b5 y
    · exact Mem.own_below (b6 f5) hba
    · simp only [if_true]; exact ⟨w.heap.size, rfl, heap_alloc_new _ _, b0.size⟩
    · simp only [Nat.reduceEqDiff, if_false] at y; rw [f5] at y; cases y
    · simp only [Nat.reduceEqDiff, if_false, Option.some.injEq]; rw [f7]; exact (hba.block _ (Array.getElem?_eq_some_iff.1 hb0).1).trans hb0
    · simp only [Nat.reduceEqDiff, if_false]; exact b10.below hba
  · refine .inr ?_
    have f7 : L.getD 7 false = false := by
      cases hq : L.getD 7 false with
      | false => rfl
      | true => exact absurd (b2 hq) (by simp [hf])
    have hb0 := b9
    rw [if_neg (by rw [f7]; decide)] at hb0
    have n1 := hneed 1 (by kernel_rfl)
    have n2 := hneed 4 (by kernel_rfl)
    obtain ⟨g, eg, hg, hlg⟩ := b7 n2 hf
    refine ⟨some 36, by decide, ch_oper (i := 5) rfl (wanted_none rfl) ?_⟩
    refine wp_app_any (.tmp 32) (.tmp 35) 23 rfl base 73 i0 (.agg #[.string ⟨#[]⟩, .int .i64 0, .int .i64 0, .string ⟨#[]⟩]) 4 48 Try.underlying23 hi0 hi1 hi2 hi3 rfl (by decide) V k xs ((h.old rfl).trans (b4 n1)) (b6 hf) (some ⟨g, 0, none⟩) 1 1 (varCells ov) ((h.old rfl).trans eg) ⟨rfl, fun e => (by cases e), fun ad e j u hu => by injection e with e; subst e; rw [Mem.add_at, cell_of_row w g j _ _ (0, 0) hg]; simpa using hu⟩ (var_one _) (by unfold maxLen; omega) (by omega) (by have := b0.size; omega) ?_
    intro v' w' hown' hgr
    have hlt := (b6 hf).lt
    refine ⟨_, rfl, ⟨Nat.le_trans b0.size hgr.size, fun b h1 h2 h3 => (hgr.block b (by have := b0.size; omega) (fun e => by have := (hlt b e.symm).1; omega)).trans (b0.block b h1 h2 h3)⟩, fun y => ?_, fun y => ?_, fun y => ?_, fun y => ?_, fun y => ?_, fun y => ?_, fun y z => ?_, fun y => ?_, ?_, ?_⟩
    · simp only [Nat.reduceEqDiff, if_false]; exact ⟨n1, n2⟩
    · simp only [if_true]
    · simp only [Nat.reduceEqDiff, if_false] at y ⊢; exact b3 y
    · simp only [Nat.reduceEqDiff, if_false, Option.some.injEq] at y ⊢; exact b4 y
    · simp only [Nat.reduceEqDiff, if_false, Option.some.injEq] at y ⊢; exact b5 y
    · simp only [if_true] at y; cases y
    · simp only [if_true] at z; cases z
    · simp only [if_true]; exact hown'
    · simp only [Nat.reduceEqDiff, if_false, if_true]; rw [f7]; exact (hgr.block gm (Array.getElem?_eq_some_iff.1 hb0).1 (fun e => by have := (hlt gm e.symm).1; omega)).trans hb0
    · simp only [Nat.reduceEqDiff, if_false]; exact took_grown b10 hgr hR0 (fun k hk => ⟨by have := (hlt k hk).1; omega, (hlt k hk).2⟩)
  · refine .inl ?_
    exact fix_value (i := 6) (d := 37) rfl (wanted_none rfl) rfl (by decide) (x_field rfl ((h.old rfl).trans e3) (by simp [go_sem]))
  · refine .inr ?_
    have n5 := hneed 5 (by kernel_rfl)
    have hb0 := b9
    rw [if_neg (by rw [hf]; decide)] at hb0
    have ho := b8 n5
    obtain ⟨A9, c9, e9⟩ := own_slice ho
    have hne : (a1.eval (.tmp 36)).ownBlock ≠ some gm := fun e => by have := (ho.lt gm e).1; omega
    refine ⟨none, by decide, ch_oper (i := 7) rfl (wanted_none rfl) ?_⟩
    refine wp_store_slice _ _ _ rfl gm 3 A9 (k + 1) c9 (h.get 6 37 (by decide) (hneed 6 (by kernel_rfl))) ((h.old rfl).trans e9) hb0 (by rw [hRs]; decide) hsz23 ?_
    rw [← e9]
    have hgs := grown_setCell w gm 3 (a1.eval (.tmp 36))
    refine ⟨undef, rfl, ⟨by simpa using b0.size, fun b h1 h2 h3 => (heap_setCell_other _ _ _ _ (by simpa using h2)).trans (b0.block b h1 h2 h3)⟩, fun y => ?_, fun y => ?_, fun y => ?_, fun y => ?_, fun y => ?_, fun y => ?_, fun y z => ?_, fun y => ?_, ?_, ?_⟩
    · exact b1 n5
    · exact n5
    · simp only [Nat.reduceEqDiff, if_false] at y ⊢; exact b3 y
    · simp only [Nat.reduceEqDiff, if_false] at y ⊢; exact b4 y
    · simp only [Nat.reduceEqDiff, if_false] at y ⊢; exact b5 y
    · simp only [Nat.reduceEqDiff, if_false] at y; rw [n5] at y; cases y
    · simp only [Nat.reduceEqDiff, if_false] at z; rw [n5] at z; cases z
    · simp only []; exact ho.kept hgs (.inr hne)
    · simp only [if_true]; exact heap_setCell_same _ gm 3 _ _ _ hb0
    · simp only [Nat.reduceEqDiff, if_false]; exact b10.ours hgs hR0 hwo

noncomputable def hdbOps : Array Oper := findOps 10 ((Try.f31).body.getD (.exit 0))
def hdbSlots : List (Nat × Nat) := [(0, 51), (2, 53), (6, 57)]
def hdbCh : List (Nat × Option Nat) := [(1, some 52), (3, some 54), (4, some 55), (5, some 56), (7, none)]
def hdbVal (gm bp : Nat) : Nat → Value
  | 0 => .pointer (some ⟨gm, 3, none⟩)
  | 2 => .pointer (some ⟨bp, 0, none⟩)
  | _ => .pointer (some ⟨gm, 3, none⟩)
set_option maxHeartbeats 4000000 in
theorem hdbRegion {Q : Exit → Act → World → Prop} (a0 : Act) (wo W0 : World) (hs : 57 < a0.tmps.size) (bp : Nat) (A : Option Addr) (c : Nat) (ts : List Lx.Tok) (s0 s1 s2 : St) (gm k base : Nat) (R : Array Value) (V : Value) (xs : List Value) (ov : Vr)
    (hR0 : RowAt wo bp 61 A c ts s0) (hRs : R.size = 5) (hR3 : R[3]? = some V) (hgm : gm < base) (hbp : bp < wo.heap.size) (hwo : wo.heap.size ≤ gm) (hbase : base ≤ W0.heap.size) (hk : k ≤ 1000000) (hrow : W0.heap[gm]? = some (.cells R 26 (0, 0))) (hown : W0.ownsRow base 73 4 V k xs)
    (hto : Took wo bp 61 A c ts s1 W0)
    (hcall : ∀ W, RowAt W bp 61 A c ts s1 → Calls Try.prog 66 #[.pointer (some ⟨bp, 0, none⟩)] W (DeclPost W bp 61 A c ts (ov, s2)))
    (e0 : a0.eval (.tmp 0) = .pointer (some ⟨bp, 0, none⟩)) (e3 : a0.eval (.tmp 3) = .pointer (some ⟨gm, 0, none⟩))
    (hQ : ∀ (vs : Nat → Value) w, (HdC wo W0 bp A c ts s1 s2 gm k base R V xs ov 52 54 55 56) (fun _ => true) vs w → Q .normal (hdbSlots.foldl (fun x p => x.put (some p.2) ((hdbVal gm bp) p.1)) ([52, 54, 55, 56].foldl (fun x d => x.put (some d) (vs d)) a0)) w) :
    wpAny Try.prog .any hdbOps Q 8 (Array.replicate 8 false) a0 W0.drew := by
  have ok : slotsFix hdbSlots a0.tmps.size = true := by
    have : ∀ z, 57 < z → slotsFix hdbSlots z = true := by
      intro z hz
      simp [slotsFix, hdbSlots]
      try omega
    exact this _ hs
  have okc : chainOk hdbSlots hdbCh a0.tmps.size = true := by
    have : ∀ z, 57 < z → chainOk hdbSlots hdbCh z = true := by
      intro z hz
      simp [chainOk, hdbSlots, hdbCh]
      try omega
    exact this _ hs
  obtain ⟨i0, hi0, hi1, hi2, hi3⟩ := info_parts infoVr
  have hsz23 : (Try.prog.info? 23).map (·.size) = some 1 := by kernel_rfl
  have hdrew : Below W0.heap.size W0 W0.drew := (Below.refl _ _).drew
  refine region_chain2 (by kernel_rfl) W0 a0 hdbSlots (hdbVal gm bp) hdbCh (HdC wo W0 bp A c ts s1 s2 gm k base R V xs ov 52 54 55 56) ok okc 8 (by kernel_rfl) (by kernel_rfl) (by kernel_rfl)
    (fun L L' vs w h hc => by have h1 := h (1, some 52) (by decide); have h2 := h (3, some 54) (by decide); have h3 := h (4, some 55) (by decide); have h4 := h (5, some 56) (by decide); have h5 := h (7, none) (by decide); unfold HdC at *; simp only [← h1, ← h2, ← h3, ← h4, ← h5]; exact hc)
    (fun L vs w w' hc hb => by obtain ⟨a0, a1, a2, a3, a4, a5, a6, a7, a8, a9, a10⟩ := hc; exact ⟨a0.below hb hbase, a1, a2, a3, a4, a5, fun y => Mem.own_below (a6 y) hb, fun y z => by obtain ⟨g, e, hh, hl⟩ := a7 y z; exact ⟨g, e, (hb.block _ (Array.getElem?_eq_some_iff.1 hh).1).trans hh, hl⟩, fun y => Mem.own_below (a8 y) hb, (hb.block _ (Array.getElem?_eq_some_iff.1 a9).1).trans a9, a10.below hb⟩)
    (by refine ⟨⟨Nat.le_refl _, fun _ _ _ _ => rfl⟩, fun h => (by cases h), fun h => (by cases h), fun h => (by cases h), fun h => (by cases h), fun h => (by cases h), fun _ => hown, fun h => (by cases h), fun h => (by cases h), hrow, hto.below hdrew⟩) ?_ (fun vs w hc => hQ vs w hc)
  intro a1 i L a w hev h hc hi hf hneed
  replace e0 := (hev 0 rfl).trans e0
  replace e3 := (hev 3 rfl).trans e3
  obtain ⟨b0, b1, b2, b3, b4, b5, b6, b7, b8, b9, b10⟩ := hc
  simp only [] at b1 b2 b3 b4 b5 b6 b7 b8 b9 b10
  rcases (show i = 0 ∨ i = 1 ∨ i = 2 ∨ i = 3 ∨ i = 4 ∨ i = 5 ∨ i = 6 ∨ i = 7 by omega) with rfl | rfl | rfl | rfl | rfl | rfl | rfl | rfl
  · refine .inl ?_
    exact fix_value (i := 0) (d := 51) rfl (wanted_none rfl) rfl (by decide) (x_field rfl ((h.old rfl).trans e3) (by simp [go_sem]))
  · refine .inr ?_
    have f5 : L.getD 5 false = false := by
      cases hq : L.getD 5 false with
      | false => rfl
      | true => exact absurd ((b1 hq).1) (by simp [hf])
    have f7 : L.getD 7 false = false := by
      cases hq : L.getD 7 false with
      | false => rfl
      | true => exact absurd (b2 hq) (by simp [f5])
    have hb0 := b9
    rw [if_neg (by rw [f7]; decide)] at hb0
    have hh0 : w.cell? ⟨gm, 3, none⟩ = some V := by rw [cell_of_row w gm 3 _ _ (0, 0) hb0]; exact hR3
    refine ⟨some 52, by decide, ch_value (i := 1) (v := V) (w' := w) rfl (wanted_none rfl) (x_load rfl (h.get 0 51 (by decide) (hneed 0 (by kernel_rfl))) (by first | (simp [go_sem, hh0]; done) | (simp [go_sem, hh0]; rfl))) ⟨V, rfl, b0, fun y => ?_, fun y => ?_, fun y => ?_, fun _ => ?_, fun y => ?_, fun y => ?_, fun y z => ?_, fun y => ?_, ?_, ?_⟩⟩
    · simp only [Nat.reduceEqDiff, if_false] at y; rw [f5] at y; cases y
    · simp only [Nat.reduceEqDiff, if_false] at y; rw [f7] at y; cases y
    · simp only [Nat.reduceEqDiff, if_false] at y ⊢; exact b3 y
    · rfl
    · simp only [Nat.reduceEqDiff, if_false, Option.some.injEq] at y ⊢; exact b5 y
    · exact b6 f5
    · simp only [Nat.reduceEqDiff, if_false, Option.some.injEq] at y ⊢; exact b7 y f5
    · simp only [Nat.reduceEqDiff, if_false] at y; rw [f5] at y; cases y
    · simp only [Nat.reduceEqDiff, if_false, Option.some.injEq]; rw [f7]; exact hb0
    · simp only [Nat.reduceEqDiff, if_false]; exact b10
  · refine .inl ?_
    exact fix_value (i := 2) (d := 53) rfl (wanted_none rfl) rfl (by decide) (x_move rfl ((h.old rfl).trans e0))
  · refine .inr ?_
    have f4 : L.getD 4 false = false := by
      cases hq : L.getD 4 false with
      | false => rfl
      | true => exact absurd (b3 hq) (by simp [hf])
    have f5 : L.getD 5 false = false := by
      cases hq : L.getD 5 false with
      | false => rfl
      | true => exact absurd ((b1 hq).2) (by simp [f4])
    have f7 : L.getD 7 false = false := by
      cases hq : L.getD 7 false with
      | false => rfl
      | true => exact absurd (b2 hq) (by simp [f5])
    have hb0 := b9
    rw [if_neg (by rw [f7]; decide)] at hb0
    rw [if_neg (by rw [hf]; decide)] at b10
    refine ⟨some 54, by decide, ch_call (i := 3) 66 Try.f66 #[.tmp 53] _ #[.pointer (some ⟨bp, 0, none⟩)] rfl (wanted_none rfl) rfl (by simp [(h.get 2 53 (by decide) (hneed 2 (by kernel_rfl))), hdbVal]) Try.func66 (by kernel_rfl) (by kernel_rfl) ?_⟩
    refine (hcall w b10.1).mono ?_
    rintro e w' ⟨rfl, hk⟩
    refine ⟨_, rfl, _, rfl, ⟨Nat.le_trans b0.size hk.2.size, fun b h1 h2 h3 => (hk.2.block b (by have := b0.size; omega) (fun e => h3 (by injection e))).trans (b0.block b h1 h2 h3)⟩, fun y => ?_, fun y => ?_, fun y => ?_, fun y => ?_, fun y => ?_, fun y => ?_, fun y z => ?_, fun y => ?_, ?_, ?_⟩
    · simp only [Nat.reduceEqDiff, if_false] at y; rw [f5] at y; cases y
    · simp only [Nat.reduceEqDiff, if_false] at y; rw [f7] at y; cases y
    · simp only [if_true]
    · simp only [Nat.reduceEqDiff, if_false, Option.some.injEq] at y ⊢; exact b4 y
    · simp only [if_true]
    · exact own_took (b6 f5) hk (by omega)
    · simp only [Nat.reduceEqDiff, if_false] at y; rw [f4] at y; cases y
    · simp only [Nat.reduceEqDiff, if_false] at y; rw [f5] at y; cases y
    · simp only [Nat.reduceEqDiff, if_false, Option.some.injEq]; rw [f7]; exact hk.row hb0 (by omega)
    · simp only [if_true]; exact b10.trans hk
  · refine .inr ?_
    have f5 : L.getD 5 false = false := by
      cases hq : L.getD 5 false with
      | false => rfl
      | true => exact absurd ((b1 hq).2) (by simp [hf])
    have f7 : L.getD 7 false = false := by
      cases hq : L.getD 7 false with
      | false => rfl
      | true => exact absurd (b2 hq) (by simp [f5])
    have hb0 := b9
    rw [if_neg (by rw [f7]; decide)] at hb0
    have n3 := hneed 3 (by kernel_rfl)
    have hba : Below w.heap.size w (w.alloc (.cells (varCells ov).toArray 73)) := (Below.refl _ _).alloc (Nat.le_refl _) _
    refine ⟨some 55, by decide, ch_oper (i := 4) rfl (wanted_none rfl) ?_⟩
    refine wp_buildSlice 23 73 1 #[(0, .tmp 54)] rfl (varCells ov).toArray i0 (.agg #[.string ⟨#[]⟩, .int .i64 0, .int .i64 0, .string ⟨#[]⟩]) Try.underlying23 hi0 hi1 (by rw [hi2]; decide) (by rw [hi2]; decide) (by rw [hi2]; simp only [List.map_toArray, List.map_cons, List.map_nil]; rw [show a.eval (.tmp 54) = varAgg ov from (h.old rfl).trans (b5 n3)]; exact fill_var ov) ?_
    refine ⟨_, rfl, b0.below hba hbase, fun y => ?_, fun y => ?_, fun y => ?_, fun y => ?_, fun y => ?_, fun y => ?_, fun y z => ?_, fun y => ?_, ?_, ?_⟩
    · simp only [Nat.reduceEqDiff, if_false] at y; rw [f5] at y; cases y
    · simp only [Nat.reduceEqDiff, if_false] at y; rw [f7] at y; cases y
    · simp only [Nat.reduceEqDiff, if_false]; exact n3
    · simp only [Nat.reduceEqDiff, if_false, Option.some.injEq] at y ⊢; exact b4 y
    · simp only [Nat.reduceEqDiff, if_false, Option.some.injEq] at y ⊢; exact b5 y
    · exact Mem.own_below (b6 f5) hba
    · simp only [if_true]; exact ⟨w.heap.size, rfl, heap_alloc_new _ _, b0.size⟩
    · simp only [Nat.reduceEqDiff, if_false] at y; rw [f5] at y; cases y
    · simp only [Nat.reduceEqDiff, if_false, Option.some.injEq]; rw [f7]; exact (hba.block _ (Array.getElem?_eq_some_iff.1 hb0).1).trans hb0
    · simp only [Nat.reduceEqDiff, if_false]; exact b10.below hba
  · refine .inr ?_
    have f7 : L.getD 7 false = false := by
      cases hq : L.getD 7 false with
      | false => rfl
      | true => exact absurd (b2 hq) (by simp [hf])
    have hb0 := b9
    rw [if_neg (by rw [f7]; decide)] at hb0
    have n1 := hneed 1 (by kernel_rfl)
    have n2 := hneed 4 (by kernel_rfl)
    obtain ⟨g, eg, hg, hlg⟩ := b7 n2 hf
    refine ⟨some 56, by decide, ch_oper (i := 5) rfl (wanted_none rfl) ?_⟩
    refine wp_app_any (.tmp 52) (.tmp 55) 23 rfl base 73 i0 (.agg #[.string ⟨#[]⟩, .int .i64 0, .int .i64 0, .string ⟨#[]⟩]) 4 48 Try.underlying23 hi0 hi1 hi2 hi3 rfl (by decide) V k xs ((h.old rfl).trans (b4 n1)) (b6 hf) (some ⟨g, 0, none⟩) 1 1 (varCells ov) ((h.old rfl).trans eg) ⟨rfl, fun e => (by cases e), fun ad e j u hu => by injection e with e; subst e; rw [Mem.add_at, cell_of_row w g j _ _ (0, 0) hg]; simpa using hu⟩ (var_one _) (by unfold maxLen; omega) (by omega) (by have := b0.size; omega) ?_
    intro v' w' hown' hgr
    have hlt := (b6 hf).lt
    refine ⟨_, rfl, ⟨Nat.le_trans b0.size hgr.size, fun b h1 h2 h3 => (hgr.block b (by have := b0.size; omega) (fun e => by have := (hlt b e.symm).1; omega)).trans (b0.block b h1 h2 h3)⟩, fun y => ?_, fun y => ?_, fun y => ?_, fun y => ?_, fun y => ?_, fun y => ?_, fun y z => ?_, fun y => ?_, ?_, ?_⟩
    · simp only [Nat.reduceEqDiff, if_false]; exact ⟨n1, n2⟩
    · simp only [if_true]
    · simp only [Nat.reduceEqDiff, if_false] at y ⊢; exact b3 y
    · simp only [Nat.reduceEqDiff, if_false, Option.some.injEq] at y ⊢; exact b4 y
    · simp only [Nat.reduceEqDiff, if_false, Option.some.injEq] at y ⊢; exact b5 y
    · simp only [if_true] at y; cases y
    · simp only [if_true] at z; cases z
    · simp only [if_true]; exact hown'
    · simp only [Nat.reduceEqDiff, if_false, if_true]; rw [f7]; exact (hgr.block gm (Array.getElem?_eq_some_iff.1 hb0).1 (fun e => by have := (hlt gm e.symm).1; omega)).trans hb0
    · simp only [Nat.reduceEqDiff, if_false]; exact took_grown b10 hgr hR0 (fun k hk => ⟨by have := (hlt k hk).1; omega, (hlt k hk).2⟩)
  · refine .inl ?_
    exact fix_value (i := 6) (d := 57) rfl (wanted_none rfl) rfl (by decide) (x_field rfl ((h.old rfl).trans e3) (by simp [go_sem]))
  · refine .inr ?_
    have n5 := hneed 5 (by kernel_rfl)
    have hb0 := b9
    rw [if_neg (by rw [hf]; decide)] at hb0
    have ho := b8 n5
    obtain ⟨A9, c9, e9⟩ := own_slice ho
    have hne : (a1.eval (.tmp 56)).ownBlock ≠ some gm := fun e => by have := (ho.lt gm e).1; omega
    refine ⟨none, by decide, ch_oper (i := 7) rfl (wanted_none rfl) ?_⟩
    refine wp_store_slice _ _ _ rfl gm 3 A9 (k + 1) c9 (h.get 6 57 (by decide) (hneed 6 (by kernel_rfl))) ((h.old rfl).trans e9) hb0 (by rw [hRs]; decide) hsz23 ?_
    rw [← e9]
    have hgs := grown_setCell w gm 3 (a1.eval (.tmp 56))
    refine ⟨undef, rfl, ⟨by simpa using b0.size, fun b h1 h2 h3 => (heap_setCell_other _ _ _ _ (by simpa using h2)).trans (b0.block b h1 h2 h3)⟩, fun y => ?_, fun y => ?_, fun y => ?_, fun y => ?_, fun y => ?_, fun y => ?_, fun y z => ?_, fun y => ?_, ?_, ?_⟩
    · exact b1 n5
    · exact n5
    · simp only [Nat.reduceEqDiff, if_false] at y ⊢; exact b3 y
    · simp only [Nat.reduceEqDiff, if_false] at y ⊢; exact b4 y
    · simp only [Nat.reduceEqDiff, if_false] at y ⊢; exact b5 y
    · simp only [Nat.reduceEqDiff, if_false] at y; rw [n5] at y; cases y
    · simp only [Nat.reduceEqDiff, if_false] at z; rw [n5] at z; cases z
    · simp only []; exact ho.kept hgs (.inr hne)
    · simp only [if_true]; exact heap_setCell_same _ gm 3 _ _ _ hb0
    · simp only [Nat.reduceEqDiff, if_false]; exact b10.ours hgs hR0 hwo

end Go.Proofs.Ytilkilffkjhhbaa
