/-
  Single operations on memory: a store of one number or truth into a variable, a comparison.
  The first test of read, of bytes that are long enough, whatever the order.
  The first test of read, of bytes that are too short, whatever the order.
  One more number of the first memory, whatever the order.
-/
import Derived.Test.YtjhopgmionpkoaaJu1
import Derived.Test.YtjhopgmionpkoaaRgn
import Derived.Test.YtjhopgmionpkoaaCells
import Derived.Great.BuildSlice
import Derived.Test.YtjhopgmionpkoaaBytes
import Derived.Test.YtjhopgmionpkoaaIsa1
namespace Go.Proofs.Ytjhopgmionpkoaa.Mem
set_option maxRecDepth 20000
open Go.RowKit

section
variable {P : Program} {a : Act} {w : World} {o : Oper} {K : Act → World → Prop} {Q : Exit → Act → World → Prop}
theorem wp_store_int (ty : TypeId) (x y : Operand) (ho : o.op = .store ty x y) (g : Nat) (k : IntKind) (n : Int) (hx : a.eval x = .pointer (some ⟨g, 0, none⟩)) (hy : a.eval y = .int k n)
    {v : Value} {t : TypeId} (hg : w.heap[g]? = some (.cells #[v] t (0, 0))) (hi : (P.info? ty).map (·.size) = some 1) (h : K (a.put o.dst undef) (w.setRow g #[.int k n])) : o.wp P a w K Q := by
  unfold Oper.wp execOp
  simp only [ho, hx, hy, Instr.storeAt, Instr.sureAddr, Sem.run_bind, Sem.run_pure, Result.andThen_ok, run_store1 w ty g 0 k n hg (by simp) hi]
  rw [setCell_eq_setRow w g 0 _ t (0, 0) _ hg]
  exact h
theorem run_store1b (ty : TypeId) (g : Nat) (b : Bool) {v : Value} {t : TypeId} (hg : w.heap[g]? = some (.cells #[v] t (0, 0))) (hi : (P.info? ty).map (·.size) = some 1) :
    (storeVar ty ⟨g, 0, none⟩ (.bool b)).run P w = .ok () (w.setCell ⟨g, 0, none⟩ (.bool b)) := by
  have hc : w.cell? ⟨g, 0, none⟩ = some v := by rw [cell_of_row w g 0 _ _ (0, 0) hg]; rfl
  have hf := frozen_of_row w g 0 _ _ hg
  cases hq : P.info? ty with
  | none => simp [hq] at hi
  | some i =>
    have hs : i.size = 1 := by simpa [hq] using hi
    simp [storeVar, sizeOf, typeInfo, hq, Value.cells, hs, storeCells, stored, hc, hf, go_sem, Addr.add]
theorem wp_store_bool (ty : TypeId) (x y : Operand) (ho : o.op = .store ty x y) (g : Nat) (b : Bool) (hx : a.eval x = .pointer (some ⟨g, 0, none⟩)) (hy : a.eval y = .bool b)
    {v : Value} {t : TypeId} (hg : w.heap[g]? = some (.cells #[v] t (0, 0))) (hi : (P.info? ty).map (·.size) = some 1) (h : K (a.put o.dst undef) (w.setRow g #[.bool b])) : o.wp P a w K Q := by
  unfold Oper.wp execOp
  simp only [ho, hx, hy, Instr.storeAt, Instr.sureAddr, Sem.run_bind, Sem.run_pure, Result.andThen_ok, run_store1b ty g b hg hi]
  rw [setCell_eq_setRow w g 0 _ t (0, 0) _ hg]
  exact h
theorem run_store1s (ty : TypeId) (g j : Nat) (A : Option Addr) (n c : Nat) {cs : Array Value} {t : TypeId} (hg : w.heap[g]? = some (.cells cs t (0, 0))) (hj : j < cs.size) (hi : (P.info? ty).map (·.size) = some 1) :
    (storeVar ty ⟨g, j, none⟩ (.slice A n c)).run P w = .ok () (w.setCell ⟨g, j, none⟩ (.slice A n c)) := by
  have hc : w.cell? ⟨g, j, none⟩ = some cs[j] := by rw [cell_of_row w g j _ _ (0, 0) hg, Array.getElem?_eq_getElem hj]
  have hf := frozen_of_row w g j _ _ hg
  cases hq : P.info? ty with
  | none => simp [hq] at hi
  | some i =>
    have hs : i.size = 1 := by simpa [hq] using hi
    simp [storeVar, sizeOf, typeInfo, hq, Value.cells, hs, storeCells, stored, hc, hf, go_sem, Addr.add]
theorem wp_store_slice (ty : TypeId) (x y : Operand) (ho : o.op = .store ty x y) (g j : Nat) (A : Option Addr) (n c : Nat) (hx : a.eval x = .pointer (some ⟨g, j, none⟩)) (hy : a.eval y = .slice A n c)
    {cs : Array Value} {t : TypeId} (hg : w.heap[g]? = some (.cells cs t (0, 0))) (hj : j < cs.size) (hi : (P.info? ty).map (·.size) = some 1) (h : K (a.put o.dst undef) (w.setCell ⟨g, j, none⟩ (.slice A n c))) : o.wp P a w K Q := by
  unfold Oper.wp execOp
  simp only [ho, hx, hy, Instr.storeAt, Instr.sureAddr, Sem.run_bind, Sem.run_pure, Result.andThen_ok, run_store1s ty g j A n c hg hj hi]
  exact h
theorem fill_one (x : Int) : Instr.fill (fun i => some (i * 1, 1)) ((Array.range (1 * 1)).map ((Value.int .i32 0).cells[· % (Value.int .i32 0).cells.size]!)) [(0, .int .i32 x)] = some #[.int .i32 x] :=
  Great.fill_flat [.int .i32 x] _ (fun v hv => by rw [List.mem_singleton] at hv; subst hv; rfl) (by simp)
theorem x_geq64 {x y : Operand} {t t2 : TypeId} {n m : Int} (ho : o.op = .binOp .geq t x y t2) (hx : a.eval x = .int .i64 n) (hy : a.eval y = .int .i64 m) : (execOp a.eval o).run P w = .ok (.value (.bool (decide (m ≤ n)))) w := by
  unfold execOp
  simp only [ho, hx, hy]
  simp [eqGuard, go_sem]
end
end Go.Proofs.Ytjhopgmionpkoaa.Mem
namespace Go.Proofs.Ytjhopgmionpkoaa
set_option maxRecDepth 20000
open Go.RowKit Mem

set_option linter.unusedVariables false
noncomputable def imrlOps : Array Oper := findOps 1 ((Try.f33).body.getD (.exit 0))
def imrlSlots : List (Nat × Nat) := [(0, 16), (1, 17), (2, 18), (3, 19), (4, 20), (5, 21), (6, 22), (7, 23), (8, 24)]
def imrlCh : List (Nat × Option Nat) := [(9, some 4), (10, some 5), (11, none), (12, none)]
def imrlVal (bs : Ia.Bs) (A A4 : Option Addr) (c c4 g n : Nat) (q : Bool) : Nat → Value
  | 0 => .slice A n c
  | 1 => .int .i64 (n : Int)
  | 2 => .bool true
  | 3 => .bool true
  | 4 => .slice A n c
  | 5 => .slice A4 4 c4
  | 6 => .string ⟨(bs.take 4).toArray⟩
  | 7 => .bool q
  | _ => .bool q
def ImrdC (B : Nat) (q : Bool) (L : Nat → Bool) (vs : Nat → Value) (w : World) : Prop :=
  B ≤ w.heap.size ∧ (L 11 = true → L 9 = true) ∧ (L 12 = true → L 10 = true) ∧
  (L 9 = true → RowIn w B (vs 4) 3 (if L 11 = true then #[.int .i64 4] else #[.int .i64 0])) ∧
  (L 10 = true → RowIn w B (vs 5) 4 (if L 12 = true then #[.bool q] else #[.bool false])) ∧
  (L 9 = true → L 10 = true → vs 4 ≠ vs 5)
theorem imrlRegion {Q : Exit → Act → World → Prop} (a0 : Act) (W0 : World) (hs : 24 < a0.tmps.size) (bs : Ia.Bs) (A A4 : Option Addr) (c c4 g n : Nat) (q : Bool) (hn : n = bs.length) (hg : W0.heap[g]? = some (.cells #[.slice A n c] 31 (0, 0))) (hlo : 4 ≤ n) (hs4 : ∀ wx, (Instr.slice 31 (.slice A n c) none (some (.int .i64 4)) none).run Try.prog wx = .ok (.slice A4 4 c4) wx) (h4 : BytesAt W0 A4 (bs.take 4)) (hq : ((⟨(bs.take 4).toArray⟩ : ByteArray).toList == (⟨#[77, 73, 68, 83]⟩ : ByteArray).toList) = q)
    (e1 : a0.eval (.tmp 1) = .pointer (some ⟨g, 0, none⟩))
    (hQ : ∀ (vs : Nat → Value) w, Below W0.heap.size W0 w → (ImrdC W0.heap.size q) (fun _ => true) vs w → Q .normal (imrlSlots.foldl (fun x p => x.put (some p.2) ((imrlVal bs A A4 c c4 g n q) p.1)) ([4, 5].foldl (fun x d => x.put (some d) (vs d)) a0)) w) :
    wpAny Try.prog .any imrlOps Q 13 (Array.replicate 13 false) a0 W0.drew := by
  have ok : slotsFix imrlSlots a0.tmps.size = true := by
    have : ∀ z, 24 < z → slotsFix imrlSlots z = true := by
      intro z hz
      simp [slotsFix, imrlSlots]
      try omega
    exact this _ hs
  have okc : chainOk imrlSlots imrlCh a0.tmps.size = true := by
    have : ∀ z, 24 < z → chainOk imrlSlots imrlCh z = true := by
      intro z hz
      simp [chainOk, imrlSlots, imrlCh]
      try omega
    exact this _ hs
  have lg : g < W0.heap.size := (Array.getElem?_eq_some_iff.1 hg).1
  have hszi : (Try.prog.info? 3).map (·.size) = some 1 := by kernel_rfl
  have hszb : (Try.prog.info? 4).map (·.size) = some 1 := by kernel_rfl
  have hl4 : (bs.take 4).length = 4 := by rw [List.length_take]; omega
  refine region_chain (by kernel_rfl) W0 a0 imrlSlots (imrlVal bs A A4 c c4 g n q) imrlCh (ImrdC W0.heap.size q) ok okc 13 (by kernel_rfl) (by kernel_rfl) (by kernel_rfl) (fun L L' vs w h hc => by have h11 := h (9, some 4) (by decide); have h12 := h (10, some 5) (by decide); have h13 := h (11, none) (by decide); have h14 := h (12, none) (by decide); unfold ImrdC at *; simp only [← h11, ← h12, ← h13, ← h14]; exact hc) (fun L vs w w' hc hb => by obtain ⟨a0, a1, a2, a3, a4, a5⟩ := hc; exact ⟨Nat.le_trans a0 hb.size, a1, a2, fun x => (a3 x).below hb, fun x => (a4 x).below hb, a5⟩) (by refine ⟨Nat.le_refl _, fun h => ?_, fun h => ?_, fun h => ?_, fun h => ?_, fun h => ?_⟩ <;> cases h) ?_ (fun vs w hb hc => hQ vs w hb hc)
  intro a1 i L a w hev h hc hi hf hneed
  replace e1 := (hev 1 rfl).trans e1
  rcases (show i = 0 ∨ i = 1 ∨ i = 2 ∨ i = 3 ∨ i = 4 ∨ i = 5 ∨ i = 6 ∨ i = 7 ∨ i = 8 ∨ i = 9 ∨ i = 10 ∨ i = 11 ∨ i = 12 by omega) with rfl | rfl | rfl | rfl | rfl | rfl | rfl | rfl | rfl | rfl | rfl | rfl | rfl
  · refine .inl ?_
    exact fix_value (i := 0) (d := 16) rfl (wanted_none rfl) rfl (by decide) (x_load rfl ((h.old rfl).trans e1) (by have hh := (h.below.block _ lg).trans hg; have hh0 : w.cell? ⟨g, 0, none⟩ = some _ := cell_of_row w g 0 _ _ (0, 0) hh; simp [go_sem, hh0]; rfl))
  · refine .inl ?_
    exact fix_value (i := 1) (d := 17) rfl (wanted_none rfl) rfl (by decide) (x_len rfl Try.underlying31 (h.get 0 16 (by decide) (hneed 0 (by kernel_rfl))))
  · refine .inl ?_
    exact fix_value (i := 2) (d := 18) rfl (wanted_none rfl) rfl (by decide) ((x_geq64 rfl (h.get 1 17 (by decide) (hneed 1 (by kernel_rfl))) rfl).trans (by rw [decide_eq_true (by omega)]; rfl))
  · refine .inl ?_
    exact fix_value (i := 3) (d := 19) rfl (wanted_none rfl) rfl (by decide) (x_move rfl (h.get 2 18 (by decide) (hneed 2 (by kernel_rfl))))
  · refine .inl ?_
    exact fix_value (i := 4) (d := 20) rfl (wanted_some rfl rfl rfl (h.get 3 19 (by decide) (hneed 3 (by kernel_rfl)))) rfl (by decide) (x_load rfl ((h.old rfl).trans e1) (by have hh := (h.below.block _ lg).trans hg; have hh0 : w.cell? ⟨g, 0, none⟩ = some _ := cell_of_row w g 0 _ _ (0, 0) hh; simp [go_sem, hh0]; rfl))
  · refine .inl ?_
    exact fix_value (i := 5) (d := 21) rfl (wanted_some rfl rfl rfl (h.get 3 19 (by decide) (hneed 3 (by kernel_rfl)))) rfl (by decide) (x_slice rfl (by kernel_rfl) (h.get 4 20 (by decide) (hneed 4 (by kernel_rfl))) rfl rfl (hs4 w))
  · refine .inl ?_
    exact fix_value (i := 6) (d := 22) rfl (wanted_some rfl rfl rfl (h.get 3 19 (by decide) (hneed 3 (by kernel_rfl)))) rfl (by decide) (x_conv rfl (h.get 5 21 (by decide) (hneed 5 (by kernel_rfl))) (by have := conv_bytes w A4 c4 (bs.take 4) (h4.below h.below (Nat.le_refl _)); rw [hl4] at this; exact this))
  · refine .inl ?_
    exact fix_value (i := 7) (d := 23) rfl (wanted_some rfl rfl rfl (h.get 3 19 (by decide) (hneed 3 (by kernel_rfl)))) rfl (by decide) ((x_eql_str rfl (h.get 6 22 (by decide) (hneed 6 (by kernel_rfl))) rfl).trans (by rw [hq]; rfl))
  · refine .inl ?_
    exact fix_value (i := 8) (d := 24) rfl (wanted_none rfl) rfl (by decide) (x_pick_t rfl (h.get 3 19 (by decide) (hneed 3 (by kernel_rfl))) (h.get 7 23 (by decide) (hneed 7 (by kernel_rfl))))
  · refine .inr ?_
    obtain ⟨a0, a1', a2, a3, a4, a5⟩ := hc
    simp only [] at a1' a2 a3 a4 a5
    have f13 : L.getD 11 false = false := by
      cases hq : L.getD 11 false with
      | false => rfl
      | true => rw [a1' hq] at hf; cases hf
    refine ⟨some 4, by decide, ch_value (i := 9) (v := .pointer (some ⟨w.heap.size, 0, none⟩)) (w' := w.alloc (.cells #[.int .i64 0] 3)) rfl (wanted_none rfl) (x_alloc rfl (by simp [go_sem])) ⟨_, rfl, h.below.alloc a0 _, ?_⟩⟩
    have hba : Below w.heap.size w (w.alloc (.cells #[.int .i64 0] 3)) := (Below.refl _ _).alloc (Nat.le_refl _) _
    refine ⟨Nat.le_trans a0 hba.size, fun _ => rfl, fun hh => ?_, fun _ => ?_, fun hh => ?_, fun _ hh => ?_⟩
    · simp only [Nat.reduceEqDiff, if_false] at hh ⊢; exact a2 hh
    · simp only [Nat.reduceEqDiff, if_false, if_true, f13]
      exact ⟨w.heap.size, rfl, a0, heap_alloc_new _ _⟩
    · simp only [Nat.reduceEqDiff, if_false, Option.some.injEq] at hh ⊢
      exact (a4 hh).below hba
    · simp only [Nat.reduceEqDiff, if_false, if_true, Option.some.injEq] at hh ⊢
      exact fun e => (a4 hh).ne e.symm
  · refine .inr ?_
    obtain ⟨a0, a1', a2, a3, a4, a5⟩ := hc
    simp only [] at a1' a2 a3 a4 a5
    have f14 : L.getD 12 false = false := by
      cases hq : L.getD 12 false with
      | false => rfl
      | true => rw [a2 hq] at hf; cases hf
    refine ⟨some 5, by decide, ch_value (i := 10) (v := .pointer (some ⟨w.heap.size, 0, none⟩)) (w' := w.alloc (.cells #[.bool false] 4)) rfl (wanted_none rfl) (x_alloc rfl (by simp [go_sem])) ⟨_, rfl, h.below.alloc a0 _, ?_⟩⟩
    have hba : Below w.heap.size w (w.alloc (.cells #[.bool false] 4)) := (Below.refl _ _).alloc (Nat.le_refl _) _
    refine ⟨Nat.le_trans a0 hba.size, fun hh => ?_, fun _ => rfl, fun hh => ?_, fun _ => ?_, fun hh _ => ?_⟩
    · simp only [Nat.reduceEqDiff, if_false] at hh ⊢; exact a1' hh
    · simp only [Nat.reduceEqDiff, if_false, Option.some.injEq] at hh ⊢
      exact (a3 hh).below hba
    · simp only [Nat.reduceEqDiff, if_false, if_true, f14]
      exact ⟨w.heap.size, rfl, a0, heap_alloc_new _ _⟩
    · simp only [Nat.reduceEqDiff, if_false, if_true, Option.some.injEq] at hh ⊢
      exact (a3 hh).ne
  · refine .inr ?_
    obtain ⟨a0, a1', a2, a3, a4, a5⟩ := hc
    simp only [] at a1' a2 a3 a4 a5
    have n11 := hneed 9 (by kernel_rfl)
    have hr := a3 n11
    rw [if_neg (by rw [hf]; decide)] at hr
    obtain ⟨g9, eg, hg9, hh⟩ := hr
    refine ⟨none, by decide, ch_oper (i := 11) rfl (wanted_none rfl) ?_⟩
    refine wp_store_int _ _ _ rfl g9 .i64 4 ((h.old rfl).trans eg) rfl hh hszi ?_
    refine ⟨undef, rfl, below_setRow_ h.below hg9, ?_⟩
    refine ⟨by rw [size_setRow]; exact a0, fun _ => n11, fun hh => a2 hh, fun _ => ?_, fun hh2 => ?_, fun x y => a5 x y⟩
    · exact ⟨g9, eg, hg9, setRow_heap _ _ _ _ _ _ hh⟩
    · exact (a4 hh2).set_ (fun e => a5 n11 hh2 (eg.trans e.symm)) _
  · refine .inr ?_
    obtain ⟨a0, a1', a2, a3, a4, a5⟩ := hc
    simp only [] at a1' a2 a3 a4 a5
    have n12 := hneed 10 (by kernel_rfl)
    have hr := a4 n12
    rw [if_neg (by rw [hf]; decide)] at hr
    obtain ⟨g9, eg, hg9, hh⟩ := hr
    refine ⟨none, by decide, ch_oper (i := 12) rfl (wanted_none rfl) ?_⟩
    refine wp_store_bool _ _ _ rfl g9 q ((h.old rfl).trans eg) (h.get 8 24 (by decide) (hneed 8 (by kernel_rfl))) hh hszb ?_
    refine ⟨undef, rfl, below_setRow_ h.below hg9, ?_⟩
    refine ⟨by rw [size_setRow]; exact a0, fun hh => a1' hh, fun _ => n12, fun hh2 => ?_, fun _ => ?_, fun x y => a5 x y⟩
    · exact (a3 hh2).set_ (fun e => a5 hh2 n12 (e.trans eg.symm)) _
    · exact ⟨g9, eg, hg9, setRow_heap _ _ _ _ _ _ hh⟩
end Go.Proofs.Ytjhopgmionpkoaa
namespace Go.Proofs.Ytjhopgmionpkoaa
set_option maxRecDepth 20000
open Go.RowKit Mem

set_option linter.unusedVariables false
noncomputable def imrsOps : Array Oper := findOps 1 ((Try.f33).body.getD (.exit 0))
def imrsSlots : List (Nat × Nat) := [(0, 16), (1, 17), (2, 18), (3, 19), (4, 20), (5, 21), (6, 22), (7, 23), (8, 24)]
def imrsCh : List (Nat × Option Nat) := [(9, some 4), (10, some 5), (11, none), (12, none)]
def imrsVal (bs : Ia.Bs) (A A4 : Option Addr) (c c4 g n : Nat) (q : Bool) : Nat → Value
  | 0 => .slice A n c
  | 1 => .int .i64 (n : Int)
  | 2 => .bool false
  | 3 => .bool false
  | 4 => undef
  | 5 => undef
  | 6 => undef
  | 7 => undef
  | _ => .bool q
theorem imrsRegion {Q : Exit → Act → World → Prop} (a0 : Act) (W0 : World) (hs : 24 < a0.tmps.size) (bs : Ia.Bs) (A A4 : Option Addr) (c c4 g n : Nat) (q : Bool) (hn : n = bs.length) (hg : W0.heap[g]? = some (.cells #[.slice A n c] 31 (0, 0))) (hsh : ¬ 4 ≤ n) (hq : q = false)
    (e1 : a0.eval (.tmp 1) = .pointer (some ⟨g, 0, none⟩))
    (hQ : ∀ (vs : Nat → Value) w, Below W0.heap.size W0 w → (ImrdC W0.heap.size q) (fun _ => true) vs w → Q .normal (imrsSlots.foldl (fun x p => x.put (some p.2) ((imrsVal bs A A4 c c4 g n q) p.1)) ([4, 5].foldl (fun x d => x.put (some d) (vs d)) a0)) w) :
    wpAny Try.prog .any imrsOps Q 13 (Array.replicate 13 false) a0 W0.drew := by
  have ok : slotsFix imrsSlots a0.tmps.size = true := by
    have : ∀ z, 24 < z → slotsFix imrsSlots z = true := by
      intro z hz
      simp [slotsFix, imrsSlots]
      try omega
    exact this _ hs
  have okc : chainOk imrsSlots imrsCh a0.tmps.size = true := by
    have : ∀ z, 24 < z → chainOk imrsSlots imrsCh z = true := by
      intro z hz
      simp [chainOk, imrsSlots, imrsCh]
      try omega
    exact this _ hs
  have lg : g < W0.heap.size := (Array.getElem?_eq_some_iff.1 hg).1
  have hszi : (Try.prog.info? 3).map (·.size) = some 1 := by kernel_rfl
  have hszb : (Try.prog.info? 4).map (·.size) = some 1 := by kernel_rfl
  refine region_chain (by kernel_rfl) W0 a0 imrsSlots (imrsVal bs A A4 c c4 g n q) imrsCh (ImrdC W0.heap.size q) ok okc 13 (by kernel_rfl) (by kernel_rfl) (by kernel_rfl) (fun L L' vs w h hc => by have h11 := h (9, some 4) (by decide); have h12 := h (10, some 5) (by decide); have h13 := h (11, none) (by decide); have h14 := h (12, none) (by decide); unfold ImrdC at *; simp only [← h11, ← h12, ← h13, ← h14]; exact hc) (fun L vs w w' hc hb => by obtain ⟨a0, a1, a2, a3, a4, a5⟩ := hc; exact ⟨Nat.le_trans a0 hb.size, a1, a2, fun x => (a3 x).below hb, fun x => (a4 x).below hb, a5⟩) (by refine ⟨Nat.le_refl _, fun h => ?_, fun h => ?_, fun h => ?_, fun h => ?_, fun h => ?_⟩ <;> cases h) ?_ (fun vs w hb hc => hQ vs w hb hc)
  intro a1 i L a w hev h hc hi hf hneed
  replace e1 := (hev 1 rfl).trans e1
  rcases (show i = 0 ∨ i = 1 ∨ i = 2 ∨ i = 3 ∨ i = 4 ∨ i = 5 ∨ i = 6 ∨ i = 7 ∨ i = 8 ∨ i = 9 ∨ i = 10 ∨ i = 11 ∨ i = 12 by omega) with rfl | rfl | rfl | rfl | rfl | rfl | rfl | rfl | rfl | rfl | rfl | rfl | rfl
  · refine .inl ?_
    exact fix_value (i := 0) (d := 16) rfl (wanted_none rfl) rfl (by decide) (x_load rfl ((h.old rfl).trans e1) (by have hh := (h.below.block _ lg).trans hg; have hh0 : w.cell? ⟨g, 0, none⟩ = some _ := cell_of_row w g 0 _ _ (0, 0) hh; simp [go_sem, hh0]; rfl))
  · refine .inl ?_
    exact fix_value (i := 1) (d := 17) rfl (wanted_none rfl) rfl (by decide) (x_len rfl Try.underlying31 (h.get 0 16 (by decide) (hneed 0 (by kernel_rfl))))
  · refine .inl ?_
    exact fix_value (i := 2) (d := 18) rfl (wanted_none rfl) rfl (by decide) ((x_geq64 rfl (h.get 1 17 (by decide) (hneed 1 (by kernel_rfl))) rfl).trans (by rw [decide_eq_false (by omega)]; rfl))
  · refine .inl ?_
    exact fix_value (i := 3) (d := 19) rfl (wanted_none rfl) rfl (by decide) (x_move rfl (h.get 2 18 (by decide) (hneed 2 (by kernel_rfl))))
  · refine .inl ?_
    exact fix_skip (i := 4) (d := 20) (b := false) rfl rfl rfl rfl (h.get 3 19 (by decide) (hneed 3 (by kernel_rfl))) rfl (by decide) rfl
  · refine .inl ?_
    exact fix_skip (i := 5) (d := 21) (b := false) rfl rfl rfl rfl (h.get 3 19 (by decide) (hneed 3 (by kernel_rfl))) rfl (by decide) rfl
  · refine .inl ?_
    exact fix_skip (i := 6) (d := 22) (b := false) rfl rfl rfl rfl (h.get 3 19 (by decide) (hneed 3 (by kernel_rfl))) rfl (by decide) rfl
  · refine .inl ?_
    exact fix_skip (i := 7) (d := 23) (b := false) rfl rfl rfl rfl (h.get 3 19 (by decide) (hneed 3 (by kernel_rfl))) rfl (by decide) rfl
  · refine .inl ?_
    exact fix_value (i := 8) (d := 24) rfl (wanted_none rfl) rfl (by decide) ((x_pick_f rfl (h.get 3 19 (by decide) (hneed 3 (by kernel_rfl))) rfl).trans (by rw [hq]; rfl))
  · refine .inr ?_
    obtain ⟨a0, a1', a2, a3, a4, a5⟩ := hc
    simp only [] at a1' a2 a3 a4 a5
    have f13 : L.getD 11 false = false := by
      cases hq : L.getD 11 false with
      | false => rfl
      | true => rw [a1' hq] at hf; cases hf
    refine ⟨some 4, by decide, ch_value (i := 9) (v := .pointer (some ⟨w.heap.size, 0, none⟩)) (w' := w.alloc (.cells #[.int .i64 0] 3)) rfl (wanted_none rfl) (x_alloc rfl (by simp [go_sem])) ⟨_, rfl, h.below.alloc a0 _, ?_⟩⟩
    have hba : Below w.heap.size w (w.alloc (.cells #[.int .i64 0] 3)) := (Below.refl _ _).alloc (Nat.le_refl _) _
    refine ⟨Nat.le_trans a0 hba.size, fun _ => rfl, fun hh => ?_, fun _ => ?_, fun hh => ?_, fun _ hh => ?_⟩
    · simp only [Nat.reduceEqDiff, if_false] at hh ⊢; exact a2 hh
    · simp only [Nat.reduceEqDiff, if_false, if_true, f13]
      exact ⟨w.heap.size, rfl, a0, heap_alloc_new _ _⟩
    · simp only [Nat.reduceEqDiff, if_false, Option.some.injEq] at hh ⊢
      exact (a4 hh).below hba
    · simp only [Nat.reduceEqDiff, if_false, if_true, Option.some.injEq] at hh ⊢
      exact fun e => (a4 hh).ne e.symm
  · refine .inr ?_
    obtain ⟨a0, a1', a2, a3, a4, a5⟩ := hc
    simp only [] at a1' a2 a3 a4 a5
    have f14 : L.getD 12 false = false := by
      cases hq : L.getD 12 false with
      | false => rfl
      | true => rw [a2 hq] at hf; cases hf
    refine ⟨some 5, by decide, ch_value (i := 10) (v := .pointer (some ⟨w.heap.size, 0, none⟩)) (w' := w.alloc (.cells #[.bool false] 4)) rfl (wanted_none rfl) (x_alloc rfl (by simp [go_sem])) ⟨_, rfl, h.below.alloc a0 _, ?_⟩⟩
    have hba : Below w.heap.size w (w.alloc (.cells #[.bool false] 4)) := (Below.refl _ _).alloc (Nat.le_refl _) _
    refine ⟨Nat.le_trans a0 hba.size, fun hh => ?_, fun _ => rfl, fun hh => ?_, fun _ => ?_, fun hh _ => ?_⟩
    · simp only [Nat.reduceEqDiff, if_false] at hh ⊢; exact a1' hh
    · simp only [Nat.reduceEqDiff, if_false, Option.some.injEq] at hh ⊢
      exact (a3 hh).below hba
    · simp only [Nat.reduceEqDiff, if_false, if_true, f14]
      exact ⟨w.heap.size, rfl, a0, heap_alloc_new _ _⟩
    · simp only [Nat.reduceEqDiff, if_false, if_true, Option.some.injEq] at hh ⊢
      exact (a3 hh).ne
  · refine .inr ?_
    obtain ⟨a0, a1', a2, a3, a4, a5⟩ := hc
    simp only [] at a1' a2 a3 a4 a5
    have n11 := hneed 9 (by kernel_rfl)
    have hr := a3 n11
    rw [if_neg (by rw [hf]; decide)] at hr
    obtain ⟨g9, eg, hg9, hh⟩ := hr
    refine ⟨none, by decide, ch_oper (i := 11) rfl (wanted_none rfl) ?_⟩
    refine wp_store_int _ _ _ rfl g9 .i64 4 ((h.old rfl).trans eg) rfl hh hszi ?_
    refine ⟨undef, rfl, below_setRow_ h.below hg9, ?_⟩
    refine ⟨by rw [size_setRow]; exact a0, fun _ => n11, fun hh => a2 hh, fun _ => ?_, fun hh2 => ?_, fun x y => a5 x y⟩
    · exact ⟨g9, eg, hg9, setRow_heap _ _ _ _ _ _ hh⟩
    · exact (a4 hh2).set_ (fun e => a5 n11 hh2 (eg.trans e.symm)) _
  · refine .inr ?_
    obtain ⟨a0, a1', a2, a3, a4, a5⟩ := hc
    simp only [] at a1' a2 a3 a4 a5
    have n12 := hneed 10 (by kernel_rfl)
    have hr := a4 n12
    rw [if_neg (by rw [hf]; decide)] at hr
    obtain ⟨g9, eg, hg9, hh⟩ := hr
    refine ⟨none, by decide, ch_oper (i := 12) rfl (wanted_none rfl) ?_⟩
    refine wp_store_bool _ _ _ rfl g9 q ((h.old rfl).trans eg) (h.get 8 24 (by decide) (hneed 8 (by kernel_rfl))) hh hszb ?_
    refine ⟨undef, rfl, below_setRow_ h.below hg9, ?_⟩
    refine ⟨by rw [size_setRow]; exact a0, fun hh => a1' hh, fun _ => n12, fun hh2 => ?_, fun _ => ?_, fun x y => a5 x y⟩
    · exact (a3 hh2).set_ (fun e => a5 hh2 n12 (e.trans eg.symm)) _
    · exact ⟨g9, eg, hg9, setRow_heap _ _ _ _ _ _ hh⟩
end Go.Proofs.Ytjhopgmionpkoaa
namespace Go.Proofs.Ytjhopgmionpkoaa
set_option maxRecDepth 20000
open Go.RowKit Mem

set_option linter.unusedVariables false
noncomputable def imraOps : Array Oper := findOps 23 ((Try.f33).body.getD (.exit 0))
def imraSlots : List (Nat × Nat) := [(0, 96), (2, 98), (3, 99), (6, 102)]
def imraCh : List (Nat × Option Nat) := [(1, some 97), (4, some 100), (5, some 101), (7, none)]
def imraVal (gm : Nat) (xv : Int) (u : Nat) : Nat → Value
  | 0 => .pointer (some ⟨gm, 8, none⟩)
  | 2 => .int .u32 (u : Int)
  | 3 => .int .i32 xv
  | _ => .pointer (some ⟨gm, 8, none⟩)
theorem infoI32 : (Try.prog.info? 21).map (fun i => (i.zero, i.size, i.bytes)) = some (some (.int .i32 0), 1, 4) := by kernel_rfl
structure ImraF (base gm : Nat) (W0 w : World) : Prop where
  os : w.os = W0.os
  tape : w.tape = W0.tape
  output : w.output = W0.output
  size : W0.heap.size ≤ w.heap.size
  block : ∀ b, b < base → b ≠ gm → w.heap[b]? = W0.heap[b]?
theorem ImraF.below {base gm : Nat} {W0 w w' : World} (h : ImraF base gm W0 w) (hb : Below w.heap.size w w') (hB : base ≤ W0.heap.size) : ImraF base gm W0 w' :=
  ⟨hb.os.trans h.os, hb.tape.trans h.tape, hb.output.trans h.output, Nat.le_trans h.size hb.size, fun b h1 h2 => (hb.block b (by have := h.size; omega)).trans (h.block b h1 h2)⟩
def ImraC (W0 : World) (gm k base : Nat) (R : Array Value) (V : Value) (xs : List Value) (xv : Int) (iL iB iA iS sL sB sA : Nat) (L : Nat → Bool) (vs : Nat → Value) (w : World) : Prop :=
  ImraF base gm W0 w ∧ (L iA = true → L iL = true ∧ L iB = true) ∧ (L iS = true → L iA = true) ∧
  (L iL = true → vs sL = V) ∧
  (L iA = false → w.ownsRow base 21 1 V k xs) ∧
  (L iB = true → L iA = false → ∃ g, vs sB = .slice (some ⟨g, 0, none⟩) 1 1 ∧ w.heap[g]? = some (.cells #[.int .i32 xv] 21 (0, 0)) ∧ W0.heap.size ≤ g) ∧
  (L iA = true → w.ownsRow base 21 1 (vs sA) (k + 1) (xs ++ [.int .i32 xv])) ∧
  w.heap[gm]? = some (.cells (if L iS = true then R.setIfInBounds 8 (vs sA) else R) 28 (0, 0))
theorem imraRegion {Q : Exit → Act → World → Prop} (a0 : Act) (W0 : World) (hs : 102 < a0.tmps.size) (gm k base : Nat) (R : Array Value) (V : Value) (xs : List Value) (xv : Int) (hRs : R.size = 13) (hR8 : R[8]? = some V) (hgm : gm < base) (hbase : base ≤ W0.heap.size) (hk : k ≤ 1000000) (hrow : W0.heap[gm]? = some (.cells R 28 (0, 0))) (hown : W0.ownsRow base 21 1 V k xs) (u : Nat) (hu : u < 4294967296) (hx : xv = Ia.signedN u)
    (e8 : a0.eval (.tmp 8) = .pointer (some ⟨gm, 0, none⟩))
    (e13 : a0.eval (.tmp 13) = .int .u32 (u : Int))
    (hQ : ∀ (vs : Nat → Value) w, (ImraC W0 gm k base R V xs xv 1 4 5 7 97 100 101) (fun _ => true) vs w → Q .normal (imraSlots.foldl (fun x p => x.put (some p.2) ((imraVal gm xv u) p.1)) ([97, 100, 101].foldl (fun x d => x.put (some d) (vs d)) a0)) w) :
    wpAny Try.prog .any imraOps Q 8 (Array.replicate 8 false) a0 W0.drew := by
  have ok : slotsFix imraSlots a0.tmps.size = true := by
    have : ∀ z, 102 < z → slotsFix imraSlots z = true := by
      intro z hz
      simp [slotsFix, imraSlots]
      try omega
    exact this _ hs
  have okc : chainOk imraSlots imraCh a0.tmps.size = true := by
    have : ∀ z, 102 < z → chainOk imraSlots imraCh z = true := by
      intro z hz
      simp [chainOk, imraSlots, imraCh]
      try omega
    exact this _ hs
  obtain ⟨i0, hi0, hi1, hi2, hi3⟩ := info_parts infoI32
  have hsz25 : (Try.prog.info? 25).map (·.size) = some 1 := by kernel_rfl
  refine region_chain2 (by kernel_rfl) W0 a0 imraSlots (imraVal gm xv u) imraCh (ImraC W0 gm k base R V xs xv 1 4 5 7 97 100 101) ok okc 8 (by kernel_rfl) (by kernel_rfl) (by kernel_rfl) (fun L L' vs w h hc => by have h1 := h (1, some 97) (by decide); have h2 := h (4, some 100) (by decide); have h3 := h (5, some 101) (by decide); have h4 := h (7, none) (by decide); unfold ImraC at *; simp only [← h1, ← h2, ← h3, ← h4]; exact hc) (fun L vs w w' hc hb => by obtain ⟨a0, a1, a2, a3, a4, a5, a6, a7⟩ := hc; exact ⟨a0.below hb hbase, a1, a2, a3, fun y => own_below (a4 y) hb, fun y z => by obtain ⟨g, e, hh, hl⟩ := a5 y z; exact ⟨g, e, (hb.block _ (Array.getElem?_eq_some_iff.1 hh).1).trans hh, hl⟩, fun y => own_below (a6 y) hb, (hb.block _ (Array.getElem?_eq_some_iff.1 a7).1).trans a7⟩) (by refine ⟨⟨rfl, rfl, rfl, Nat.le_refl _, fun _ _ _ => rfl⟩, fun h => (by cases h), fun h => (by cases h), fun h => (by cases h), fun _ => hown, fun h => (by cases h), fun h => (by cases h), hrow⟩) ?_ (fun vs w hc => hQ vs w hc)
  intro a1 i L a w hev h hc hi hf hneed
  replace e8 := (hev 8 rfl).trans e8
  replace e13 := (hev 13 rfl).trans e13
  rcases (show i = 0 ∨ i = 1 ∨ i = 2 ∨ i = 3 ∨ i = 4 ∨ i = 5 ∨ i = 6 ∨ i = 7 by omega) with rfl | rfl | rfl | rfl | rfl | rfl | rfl | rfl
  · refine .inl ?_
    exact fix_value (i := 0) (d := 96) rfl (wanted_none rfl) rfl (by decide) (x_field rfl ((h.old rfl).trans e8) (by simp [go_sem]))
  · refine .inr ?_
    obtain ⟨a0, a1', a2, a3, a4, a5, a6, a7⟩ := hc
    simp only [] at a1' a2 a3 a4 a5 a6 a7
    have f5 : L.getD 5 false = false := by
      cases hq : L.getD 5 false with
      | false => rfl
      | true => exact absurd ((a1' hq).1) (by simp [hf])
    have f7 : L.getD 7 false = false := by
      cases hq : L.getD 7 false with
      | false => rfl
      | true => exact absurd (a2 hq) (by simp [f5])
    have hb0 := a7
    rw [if_neg (by rw [f7]; decide)] at hb0
    have hh0 : w.cell? ⟨gm, 8, none⟩ = some V := by rw [cell_of_row w gm 8 _ _ (0, 0) hb0]; exact hR8
    refine ⟨some 97, by decide, ch_value (i := 1) (v := V) (w' := w) rfl (wanted_none rfl) (x_load rfl (h.get 0 96 (by decide) (hneed 0 (by kernel_rfl))) (by first | (simp [go_sem, hh0]; done) | (simp [go_sem, hh0]; rfl))) ⟨V, rfl, a0, fun y => ?_, fun y => ?_, fun _ => ?_, fun y => ?_, fun y z => ?_, fun y => ?_, ?_⟩⟩
    · simp only [Nat.reduceEqDiff, if_false] at y; rw [f5] at y; cases y
    · simp only [Nat.reduceEqDiff, if_false] at y; rw [f7] at y; cases y
    · rfl
    · exact a4 f5
    · simp only [Nat.reduceEqDiff, if_false, Option.some.injEq] at y ⊢; exact a5 y f5
    · simp only [Nat.reduceEqDiff, if_false] at y; rw [f5] at y; cases y
    · simp only [Nat.reduceEqDiff, if_false, Option.some.injEq]; rw [f7]; exact hb0
  · refine .inl ?_
    exact fix_value (i := 2) (d := 98) rfl (wanted_none rfl) rfl (by decide) (x_move rfl ((h.old rfl).trans e13))
  · refine .inl ?_
    refine fix_call (i := 3) (d := 99) 67 Try.f67 #[.tmp 98] _ #[.int .u32 (u : Int)] rfl (wanted_none rfl) rfl (by decide) rfl (by simp [(h.get 2 98 (by decide) (hneed 2 (by kernel_rfl))), imraVal]) Try.func67 (by kernel_rfl) (by kernel_rfl) ?_
    exact (octsigned u hu w).mono (fun e w' ⟨h1, h2⟩ => ⟨by rw [h1, hx]; rfl, h2 ▸ Below.refl _ _⟩)
  · refine .inr ?_
    obtain ⟨a0, a1', a2, a3, a4, a5, a6, a7⟩ := hc
    simp only [] at a1' a2 a3 a4 a5 a6 a7
    have f5 : L.getD 5 false = false := by
      cases hq : L.getD 5 false with
      | false => rfl
      | true => exact absurd ((a1' hq).2) (by simp [hf])
    have f7 : L.getD 7 false = false := by
      cases hq : L.getD 7 false with
      | false => rfl
      | true => exact absurd (a2 hq) (by simp [f5])
    have hb0 := a7
    rw [if_neg (by rw [f7]; decide)] at hb0
    have hba : Below w.heap.size w (w.alloc (.cells #[.int .i32 xv] 21)) := (Below.refl _ _).alloc (Nat.le_refl _) _
    refine ⟨some 100, by decide, ch_oper (i := 4) rfl (wanted_none rfl) ?_⟩
    refine wp_buildSlice 25 21 1 #[(0, .tmp 99)] rfl #[.int .i32 xv] i0 (.int .i32 0) Try.underlying25 hi0 hi1 (by rw [hi2]; decide) (by rw [hi2]; decide) (by rw [hi2]; simp only [List.map_toArray, List.map_cons, List.map_nil]; rw [show a.eval (.tmp 99) = .int .i32 xv from (h.get 3 99 (by decide) (hneed 3 (by kernel_rfl)))]; exact fill_one xv) ?_
    refine ⟨_, rfl, a0.below hba hbase, fun y => ?_, fun y => ?_, fun y => ?_, fun y => ?_, fun y z => ?_, fun y => ?_, ?_⟩
    · simp only [Nat.reduceEqDiff, if_false] at y; rw [f5] at y; cases y
    · simp only [Nat.reduceEqDiff, if_false] at y; rw [f7] at y; cases y
    · simp only [Nat.reduceEqDiff, if_false, Option.some.injEq] at y ⊢; exact a3 y
    · exact own_below (a4 f5) hba
    · simp only [if_true]; exact ⟨w.heap.size, rfl, heap_alloc_new _ _, a0.size⟩
    · simp only [Nat.reduceEqDiff, if_false] at y; rw [f5] at y; cases y
    · simp only [Nat.reduceEqDiff, if_false, Option.some.injEq]; rw [f7]; exact (hba.block _ (Array.getElem?_eq_some_iff.1 hb0).1).trans hb0
  · refine .inr ?_
    obtain ⟨a0, a1', a2, a3, a4, a5, a6, a7⟩ := hc
    simp only [] at a1' a2 a3 a4 a5 a6 a7
    have f7 : L.getD 7 false = false := by
      cases hq : L.getD 7 false with
      | false => rfl
      | true => exact absurd (a2 hq) (by simp [hf])
    have hb0 := a7
    rw [if_neg (by rw [f7]; decide)] at hb0
    have n1 := hneed 1 (by kernel_rfl)
    have n2 := hneed 4 (by kernel_rfl)
    obtain ⟨g, eg, hg, hlg⟩ := a5 n2 hf
    refine ⟨some 101, by decide, ch_oper (i := 5) rfl (wanted_none rfl) ?_⟩
    refine wp_app_any (.tmp 97) (.tmp 100) 25 rfl base 21 i0 (.int .i32 0) 1 4 Try.underlying25 hi0 hi1 hi2 hi3 rfl (by decide) V k xs ((h.old rfl).trans (a3 n1)) (a4 hf) (some ⟨g, 0, none⟩) 1 1 [.int .i32 xv] ((h.old rfl).trans eg) ⟨rfl, fun e => (by cases e), fun ad e j u hu => by injection e with e; subst e; rw [add_at, cell_of_row w g j _ _ (0, 0) hg]; simpa using hu⟩ (fun u hu => by rw [List.mem_singleton] at hu; subst hu; rfl) (by unfold maxLen; omega) (by omega) (by have := a0.size; omega) ?_
    intro v' w' hown' hgr
    have hvb : ∀ b, V.ownBlock = some b → base ≤ b := fun b hb => ((a4 hf).lt b hb).1
    refine ⟨_, rfl, ⟨hgr.os.trans a0.os, hgr.tape.trans a0.tape, hgr.output.trans a0.output, Nat.le_trans a0.size hgr.size, fun b h1 h2 => (hgr.block b (by have := a0.size; omega) (fun e => by have := hvb b e.symm; omega)).trans (a0.block b h1 h2)⟩, fun y => ?_, fun y => ?_, fun y => ?_, fun y => ?_, fun y z => ?_, fun y => ?_, ?_⟩
    · simp only [Nat.reduceEqDiff, if_false]; exact ⟨n1, n2⟩
    · simp only [if_true]
    · simp only [Nat.reduceEqDiff, if_false, Option.some.injEq] at y ⊢; exact a3 y
    · simp only [if_true] at y; cases y
    · simp only [if_true] at z; cases z
    · simp only [if_true]; exact hown'
    · simp only [Nat.reduceEqDiff, if_false, if_true]; rw [f7]; exact (hgr.block gm (Array.getElem?_eq_some_iff.1 hb0).1 (fun e => by have := hvb gm e.symm; omega)).trans hb0
  · refine .inl ?_
    exact fix_value (i := 6) (d := 102) rfl (wanted_none rfl) rfl (by decide) (x_field rfl ((h.old rfl).trans e8) (by simp [go_sem]))
  · refine .inr ?_
    obtain ⟨a0, a1', a2, a3, a4, a5, a6, a7⟩ := hc
    simp only [] at a1' a2 a3 a4 a5 a6 a7
    have n5 := hneed 5 (by kernel_rfl)
    have hb0 := a7
    rw [if_neg (by rw [hf]; decide)] at hb0
    have ho := a6 n5
    obtain ⟨A9, c9, e9⟩ := own_slice ho
    have hne : (a1.eval (.tmp 101)).ownBlock ≠ some gm := fun e => by have := (ho.lt gm e).1; omega
    refine ⟨none, by decide, ch_oper (i := 7) rfl (wanted_none rfl) ?_⟩
    refine wp_store_slice _ _ _ rfl gm 8 A9 (k + 1) c9 (h.get 6 102 (by decide) (hneed 6 (by kernel_rfl))) ((h.old rfl).trans e9) hb0 (by rw [hRs]; decide) hsz25 ?_
    rw [← e9]
    have hgs := grown_setCell w gm 8 (a1.eval (.tmp 101))
    refine ⟨undef, rfl, ⟨a0.os, a0.tape, a0.output, by simpa using a0.size, fun b h1 h2 => (heap_setCell_other _ _ _ _ (by simpa using h2)).trans (a0.block b h1 h2)⟩, fun y => ?_, fun y => ?_, fun y => ?_, fun y => ?_, fun y z => ?_, fun y => ?_, ?_⟩
    · exact a1' n5
    · exact n5
    · simp only [Nat.reduceEqDiff, if_false] at y ⊢; exact a3 y
    · simp only [Nat.reduceEqDiff, if_false] at y; rw [n5] at y; cases y
    · simp only [Nat.reduceEqDiff, if_false] at z; rw [n5] at z; cases z
    · simp only []; exact ho.kept hgs (.inr hne)
    · simp only [if_true]; exact heap_setCell_same _ gm 8 _ _ _ hb0
end Go.Proofs.Ytjhopgmionpkoaa
