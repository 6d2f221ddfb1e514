/-
  The drawn statement of Step of the package sha: a block's numbers, the keys and the state, each in new memory, whatever the order.
-/
import Derived.Test.YtofjfpnkdcpngaaShaC
import Derived.Test.YtofjfpnkdcpngaaRegion
import Derived.Great.Frames
import Derived.Deep.DeepCutAuto
namespace Go.Proofs.Ytofjfpnkdcpngaa
open Go.RowKit Mem

noncomputable def stepOps : Array Oper := findOps 3 ((Try.f35).body.getD (.exit 0))
def rz (p0 c1 c2 l m6 m7 m8 s1 s2 s3 : Bool) : Array Bool := #[p0, c1, c2, l, m6, m7, m8, s1, s2, s3]
def nf (b : Bool) : Nat := if b then 0 else 1
theorem nf0 {b : Bool} (h : nf b = 0) : b = true := by cases b <;> simp [nf] at h ⊢
theorem rdy0 : ∀ p0 c1 c2 l m6 m7 m8 s1 s2 s3 : Bool, Region.ready .any stepOps (rz p0 c1 c2 l m6 m7 m8 s1 s2 s3) = [] → (p0 && c1 && c2 && l && m6 && m7 && m8 && s1 && s2 && s3) = true := by
  decide +kernel
theorem rdy1 : Region.ready .any stepOps (rz true true true true true true true true true true) = [] := by kernel_rfl
theorem ready_spec {md : Region.Mode} {ops : Array Oper} {L : Array Bool} {i : Nat} (h : i ∈ Region.ready md ops L) : i < ops.size ∧ L.getD i true = false ∧
    ∀ on, ((ops[i]?).map fun o => o.after.any fun e => Region.binds md e && e.on == on) = some true → L.getD on false = true := by
  unfold Region.ready at h
  rw [List.mem_filter, List.mem_range, Bool.and_eq_true, Bool.not_eq_true'] at h
  obtain ⟨h1, h2, h3⟩ := h
  refine ⟨h1, h2, fun on hon => ?_⟩
  rw [Array.getElem?_eq_getElem h1] at h3 hon
  simp only [Option.map_some, Option.getD_some, Option.some.injEq] at h3 hon
  obtain ⟨e, he, hb⟩ := Array.any_eq_true'.1 hon
  rw [Bool.and_eq_true] at hb
  have := Array.all_eq_true_iff_forall_mem.1 h3 e he
  rw [hb.1] at this
  have e2 : e.on = on := by simpa using hb.2
  rw [← e2]
  simpa using this
theorem stepSize : stepOps.size = 10 := by kernel_rfl
theorem alloc45 (w : World) : (Instr.alloc 53 true (.tuple #[])).run Try.prog w = .ok (.pointer (some ⟨w.heap.size, 0, none⟩)) (w.alloc (.cells (Array.replicate 64 (.int .u32 0)) 53)) := by kernel_rfl
theorem alloc23 (w : World) : (Instr.alloc 43 true (.tuple #[])).run Try.prog w = .ok (.pointer (some ⟨w.heap.size, 0, none⟩)) (w.alloc (.cells (Array.replicate 8 (.int .u32 0)) 43)) := by kernel_rfl
theorem op0 : ∃ o, stepOps[0]? = some o ∧ o.guard = none ∧ o.dst = some 17 ∧ o.op = .move (.tmp 1) := ⟨_, rfl, rfl, rfl, rfl⟩
theorem op1 : ∃ o, stepOps[1]? = some o ∧ o.guard = none ∧ o.dst = some 18 ∧ o.op = .call { callee := .value (.func 39), args := #[.tmp 17], argTypes := #[22] } := ⟨_, rfl, rfl, rfl, rfl⟩
theorem op2 : ∃ o, stepOps[2]? = some o ∧ o.guard = none ∧ o.dst = some 19 ∧ o.op = .call { callee := .value (.func 40), args := #[], argTypes := #[] } := ⟨_, rfl, rfl, rfl, rfl⟩
theorem op3 : ∃ o, stepOps[3]? = some o ∧ o.guard = none ∧ o.dst = some 20 ∧ o.op = .load 43 (.tmp 2) := ⟨_, rfl, rfl, rfl, rfl⟩
theorem op4 : ∃ o, stepOps[4]? = some o ∧ o.guard = none ∧ o.dst = some 6 ∧ o.op = .alloc 53 := ⟨_, rfl, rfl, rfl, rfl⟩
theorem op5 : ∃ o, stepOps[5]? = some o ∧ o.guard = none ∧ o.dst = some 7 ∧ o.op = .alloc 53 := ⟨_, rfl, rfl, rfl, rfl⟩
theorem op6 : ∃ o, stepOps[6]? = some o ∧ o.guard = none ∧ o.dst = some 8 ∧ o.op = .alloc 43 := ⟨_, rfl, rfl, rfl, rfl⟩
theorem op7 : ∃ o, stepOps[7]? = some o ∧ o.guard = none ∧ o.dst = none ∧ o.op = .store 53 (.tmp 6) (.tmp 18) := ⟨_, rfl, rfl, rfl, rfl⟩
theorem op8 : ∃ o, stepOps[8]? = some o ∧ o.guard = none ∧ o.dst = none ∧ o.op = .store 53 (.tmp 7) (.tmp 19) := ⟨_, rfl, rfl, rfl, rfl⟩
theorem op9 : ∃ o, stepOps[9]? = some o ∧ o.guard = none ∧ o.dst = none ∧ o.op = .store 43 (.tmp 8) (.tmp 20) := ⟨_, rfl, rfl, rfl, rfl⟩
theorem enter_call {P : Program} {o : Oper} {a : Act} {wx : World} (f : FuncId) (fn : Func) (xs : Array Operand) (ts : Array TypeId) (ho : o.op = .call { callee := .value (.func f), args := xs, argTypes := ts })
    (hf : P.funcs[f]? = some fn) (hn : (fn.name == "runtime.NumGoroutine") = false) (hb : fn.body.isNone = false) :
    (execOp a.eval o).run P wx = .ok (.enter f (xs.map a.eval)) wx := by
  have hb' : fn.body ≠ none := by intro h; rw [h] at hb; cases hb
  have hn' : fn.name ≠ "runtime.NumGoroutine" := by simpa using hn
  unfold execOp
  simp [ho, resolve, Act.eval, invoke, Deferred.ofValue, callFunc, hf, hb', hn']
/-- the slots that the statement writes -/
def own_ (j : Nat) : Bool := j == 6 || j == 7 || j == 8 || j == 17 || j == 18 || j == 19 || j == 20
structure Fx (a0 a : Act) : Prop where
  sz : a.tmps.size = a0.tmps.size
  df : a.defers = a0.defers
  rest : ∀ j, own_ j = false → a.tmps[j]? = a0.tmps[j]?
theorem Fx.put {a0 a : Act} (h : Fx a0 a) {d : Nat} (hd : own_ d = true) (v : Value) : Fx a0 (a.put (some d) v) := by
  refine ⟨(Act.size_put _ _ _).trans h.sz, (Act.defers_put' _ _ _).trans h.df, fun j hj => ?_⟩
  rw [← h.rest j hj]
  show (a.tmps.setIfInBounds d v)[j]? = _
  rw [Array.getElem?_setIfInBounds_ne]
  intro e
  rw [e, hj] at hd
  cases hd
theorem Fx.eval {a0 a : Act} (h : Fx a0 a) {j : Nat} (hj : own_ j = false) : a.eval (.tmp j) = a0.eval (.tmp j) := by
  simp only [Act.eval, Array.getD_eq_getD_getElem?, h.rest j hj]
section
variable (W0 : World) (V18 V19 V20 : Array Value) (A : Option Addr) (c : Nat)
/-- what holds while the statement is carried out -/
structure Ph (a0 : Act) (p0 c1 c2 l m6 m7 m8 s1 s2 s3 : Bool) (g6 g7 g8 : Nat) (a : Act) (w : World) : Prop where
  fx : Fx a0 a
  below : Below W0.heap.size W0 w
  f17 : p0 = true → a.eval (.tmp 17) = .slice A 64 c
  f18 : c1 = true → a.eval (.tmp 18) = .agg V18
  f19 : c2 = true → a.eval (.tmp 19) = .agg V19
  f20 : l = true → a.eval (.tmp 20) = .agg V20
  f6 : m6 = true → a.eval (.tmp 6) = .pointer (some ⟨g6, 0, none⟩) ∧ W0.heap.size ≤ g6 ∧ ∃ Z : Array Value, w.heap[g6]? = some (.cells Z 53 (0, 0)) ∧ Z.size = 64 ∧ (s1 = true → Z = V18)
  f7 : m7 = true → a.eval (.tmp 7) = .pointer (some ⟨g7, 0, none⟩) ∧ W0.heap.size ≤ g7 ∧ ∃ Z : Array Value, w.heap[g7]? = some (.cells Z 53 (0, 0)) ∧ Z.size = 64 ∧ (s2 = true → Z = V19)
  f8 : m8 = true → a.eval (.tmp 8) = .pointer (some ⟨g8, 0, none⟩) ∧ W0.heap.size ≤ g8 ∧ ∃ Z : Array Value, w.heap[g8]? = some (.cells Z 43 (0, 0)) ∧ Z.size = 8 ∧ (s3 = true → Z = V20)
  ne : m6 = true → m7 = true → g6 ≠ g7
  o6 : s1 = true → m6 = true
  o7 : s2 = true → m7 = true
  o8 : s3 = true → m8 = true
theorem lt_of_heap {w : World} {g : Nat} {o : Obj} (h : w.heap[g]? = some o) : g < w.heap.size := (Array.getElem?_eq_some_iff.1 h).1
variable {W0 V18 V19 V20 A c} {a0 : Act} {p0 c1 c2 l m6 m7 m8 s1 s2 s3 : Bool} {g6 g7 g8 : Nat} {a : Act} {w : World}
/-- a step that only makes memory, or leaves all as it was, and writes one slot that no later fact but its own speaks of -/
theorem Ph.world (h : Ph W0 V18 V19 V20 A c a0 p0 c1 c2 l m6 m7 m8 s1 s2 s3 g6 g7 g8 a w) {w' : World} (hb : Below w.heap.size w w') : Ph W0 V18 V19 V20 A c a0 p0 c1 c2 l m6 m7 m8 s1 s2 s3 g6 g7 g8 a w' := by
  refine ⟨h.fx, h.below.trans (hb.mono h.below.size), h.f17, h.f18, h.f19, h.f20, fun e => ?_, fun e => ?_, fun e => ?_, h.ne, h.o6, h.o7, h.o8⟩
  · obtain ⟨h1, h2, Z, h3, h4⟩ := h.f6 e
    exact ⟨h1, h2, Z, (hb.block _ (lt_of_heap h3)).trans h3, h4⟩
  · obtain ⟨h1, h2, Z, h3, h4⟩ := h.f7 e
    exact ⟨h1, h2, Z, (hb.block _ (lt_of_heap h3)).trans h3, h4⟩
  · obtain ⟨h1, h2, Z, h3, h4⟩ := h.f8 e
    exact ⟨h1, h2, Z, (hb.block _ (lt_of_heap h3)).trans h3, h4⟩
theorem Ph.p17 (h : Ph W0 V18 V19 V20 A c a0 p0 c1 c2 l m6 m7 m8 s1 s2 s3 g6 g7 g8 a w) (hs : 20 < a0.tmps.size) : Ph W0 V18 V19 V20 A c a0 true c1 c2 l m6 m7 m8 s1 s2 s3 g6 g7 g8 (a.put (some 17) (.slice A 64 c)) w :=
  ⟨h.fx.put rfl _, h.below, fun _ => Act.eval_put_same _ _ _ (by rw [h.fx.sz]; omega), fun e => (Act.eval_put_ne _ 17 18 _ (by decide)).trans (h.f18 e), fun e => (Act.eval_put_ne _ 17 19 _ (by decide)).trans (h.f19 e), fun e => (Act.eval_put_ne _ 17 20 _ (by decide)).trans (h.f20 e), fun e => ⟨(Act.eval_put_ne _ 17 6 _ (by decide)).trans (h.f6 e).1, (h.f6 e).2⟩, fun e => ⟨(Act.eval_put_ne _ 17 7 _ (by decide)).trans (h.f7 e).1, (h.f7 e).2⟩, fun e => ⟨(Act.eval_put_ne _ 17 8 _ (by decide)).trans (h.f8 e).1, (h.f8 e).2⟩, h.ne, h.o6, h.o7, h.o8⟩
theorem Ph.p18 (h : Ph W0 V18 V19 V20 A c a0 p0 c1 c2 l m6 m7 m8 s1 s2 s3 g6 g7 g8 a w) (hs : 20 < a0.tmps.size) : Ph W0 V18 V19 V20 A c a0 p0 true c2 l m6 m7 m8 s1 s2 s3 g6 g7 g8 (a.put (some 18) (.agg V18)) w :=
  ⟨h.fx.put rfl _, h.below, fun e => (Act.eval_put_ne _ 18 17 _ (by decide)).trans (h.f17 e), fun _ => Act.eval_put_same _ _ _ (by rw [h.fx.sz]; omega), fun e => (Act.eval_put_ne _ 18 19 _ (by decide)).trans (h.f19 e), fun e => (Act.eval_put_ne _ 18 20 _ (by decide)).trans (h.f20 e), fun e => ⟨(Act.eval_put_ne _ 18 6 _ (by decide)).trans (h.f6 e).1, (h.f6 e).2⟩, fun e => ⟨(Act.eval_put_ne _ 18 7 _ (by decide)).trans (h.f7 e).1, (h.f7 e).2⟩, fun e => ⟨(Act.eval_put_ne _ 18 8 _ (by decide)).trans (h.f8 e).1, (h.f8 e).2⟩, h.ne, h.o6, h.o7, h.o8⟩
theorem Ph.p19 (h : Ph W0 V18 V19 V20 A c a0 p0 c1 c2 l m6 m7 m8 s1 s2 s3 g6 g7 g8 a w) (hs : 20 < a0.tmps.size) : Ph W0 V18 V19 V20 A c a0 p0 c1 true l m6 m7 m8 s1 s2 s3 g6 g7 g8 (a.put (some 19) (.agg V19)) w :=
  ⟨h.fx.put rfl _, h.below, fun e => (Act.eval_put_ne _ 19 17 _ (by decide)).trans (h.f17 e), fun e => (Act.eval_put_ne _ 19 18 _ (by decide)).trans (h.f18 e), fun _ => Act.eval_put_same _ _ _ (by rw [h.fx.sz]; omega), fun e => (Act.eval_put_ne _ 19 20 _ (by decide)).trans (h.f20 e), fun e => ⟨(Act.eval_put_ne _ 19 6 _ (by decide)).trans (h.f6 e).1, (h.f6 e).2⟩, fun e => ⟨(Act.eval_put_ne _ 19 7 _ (by decide)).trans (h.f7 e).1, (h.f7 e).2⟩, fun e => ⟨(Act.eval_put_ne _ 19 8 _ (by decide)).trans (h.f8 e).1, (h.f8 e).2⟩, h.ne, h.o6, h.o7, h.o8⟩
theorem Ph.p20 (h : Ph W0 V18 V19 V20 A c a0 p0 c1 c2 l m6 m7 m8 s1 s2 s3 g6 g7 g8 a w) (hs : 20 < a0.tmps.size) : Ph W0 V18 V19 V20 A c a0 p0 c1 c2 true m6 m7 m8 s1 s2 s3 g6 g7 g8 (a.put (some 20) (.agg V20)) w :=
  ⟨h.fx.put rfl _, h.below, fun e => (Act.eval_put_ne _ 20 17 _ (by decide)).trans (h.f17 e), fun e => (Act.eval_put_ne _ 20 18 _ (by decide)).trans (h.f18 e), fun e => (Act.eval_put_ne _ 20 19 _ (by decide)).trans (h.f19 e), fun _ => Act.eval_put_same _ _ _ (by rw [h.fx.sz]; omega), fun e => ⟨(Act.eval_put_ne _ 20 6 _ (by decide)).trans (h.f6 e).1, (h.f6 e).2⟩, fun e => ⟨(Act.eval_put_ne _ 20 7 _ (by decide)).trans (h.f7 e).1, (h.f7 e).2⟩, fun e => ⟨(Act.eval_put_ne _ 20 8 _ (by decide)).trans (h.f8 e).1, (h.f8 e).2⟩, h.ne, h.o6, h.o7, h.o8⟩
theorem Ph.a6 (h : Ph W0 V18 V19 V20 A c a0 p0 c1 c2 l m6 m7 m8 s1 s2 s3 g6 g7 g8 a w) (hs : 20 < a0.tmps.size) (hsf : s1 = false) : Ph W0 V18 V19 V20 A c a0 p0 c1 c2 l true m7 m8 s1 s2 s3 w.heap.size g7 g8 (a.put (some 6) (.pointer (some ⟨w.heap.size, 0, none⟩))) (w.alloc (.cells (Array.replicate 64 (.int .u32 0)) 53)) := by
  have h' := h.world (w' := w.alloc (.cells (Array.replicate 64 (.int .u32 0)) 53)) ((Below.refl _ _).alloc (Nat.le_refl _) _)
  exact ⟨h.fx.put rfl _, h'.below, fun e => (Act.eval_put_ne _ 6 17 _ (by decide)).trans (h'.f17 e), fun e => (Act.eval_put_ne _ 6 18 _ (by decide)).trans (h'.f18 e), fun e => (Act.eval_put_ne _ 6 19 _ (by decide)).trans (h'.f19 e), fun e => (Act.eval_put_ne _ 6 20 _ (by decide)).trans (h'.f20 e), fun _ => ⟨Act.eval_put_same _ _ _ (by rw [h.fx.sz]; omega), h.below.size, _, heap_alloc_new _ _, by simp, fun e => by rw [hsf] at e; cases e⟩, fun e => ⟨(Act.eval_put_ne _ 6 7 _ (by decide)).trans (h'.f7 e).1, (h'.f7 e).2⟩, fun e => ⟨(Act.eval_put_ne _ 6 8 _ (by decide)).trans (h'.f8 e).1, (h'.f8 e).2⟩, fun _ e2 e3 => by obtain ⟨_, _, Z, hz, _⟩ := h.f7 e2; have := lt_of_heap hz; omega, fun _ => rfl, h.o7, h.o8⟩
theorem Ph.a7 (h : Ph W0 V18 V19 V20 A c a0 p0 c1 c2 l m6 m7 m8 s1 s2 s3 g6 g7 g8 a w) (hs : 20 < a0.tmps.size) (hsf : s2 = false) : Ph W0 V18 V19 V20 A c a0 p0 c1 c2 l m6 true m8 s1 s2 s3 g6 w.heap.size g8 (a.put (some 7) (.pointer (some ⟨w.heap.size, 0, none⟩))) (w.alloc (.cells (Array.replicate 64 (.int .u32 0)) 53)) := by
  have h' := h.world (w' := w.alloc (.cells (Array.replicate 64 (.int .u32 0)) 53)) ((Below.refl _ _).alloc (Nat.le_refl _) _)
  exact ⟨h.fx.put rfl _, h'.below, fun e => (Act.eval_put_ne _ 7 17 _ (by decide)).trans (h'.f17 e), fun e => (Act.eval_put_ne _ 7 18 _ (by decide)).trans (h'.f18 e), fun e => (Act.eval_put_ne _ 7 19 _ (by decide)).trans (h'.f19 e), fun e => (Act.eval_put_ne _ 7 20 _ (by decide)).trans (h'.f20 e), fun e => ⟨(Act.eval_put_ne _ 7 6 _ (by decide)).trans (h'.f6 e).1, (h'.f6 e).2⟩, fun _ => ⟨Act.eval_put_same _ _ _ (by rw [h.fx.sz]; omega), h.below.size, _, heap_alloc_new _ _, by simp, fun e => by rw [hsf] at e; cases e⟩, fun e => ⟨(Act.eval_put_ne _ 7 8 _ (by decide)).trans (h'.f8 e).1, (h'.f8 e).2⟩, fun e2 _ e3 => by obtain ⟨_, _, Z, hz, _⟩ := h.f6 e2; have := lt_of_heap hz; omega, h.o6, fun _ => rfl, h.o8⟩
theorem Ph.a8 (h : Ph W0 V18 V19 V20 A c a0 p0 c1 c2 l m6 m7 m8 s1 s2 s3 g6 g7 g8 a w) (hs : 20 < a0.tmps.size) (hsf : s3 = false) : Ph W0 V18 V19 V20 A c a0 p0 c1 c2 l m6 m7 true s1 s2 s3 g6 g7 w.heap.size (a.put (some 8) (.pointer (some ⟨w.heap.size, 0, none⟩))) (w.alloc (.cells (Array.replicate 8 (.int .u32 0)) 43)) := by
  have h' := h.world (w' := w.alloc (.cells (Array.replicate 8 (.int .u32 0)) 43)) ((Below.refl _ _).alloc (Nat.le_refl _) _)
  exact ⟨h.fx.put rfl _, h'.below, fun e => (Act.eval_put_ne _ 8 17 _ (by decide)).trans (h'.f17 e), fun e => (Act.eval_put_ne _ 8 18 _ (by decide)).trans (h'.f18 e), fun e => (Act.eval_put_ne _ 8 19 _ (by decide)).trans (h'.f19 e), fun e => (Act.eval_put_ne _ 8 20 _ (by decide)).trans (h'.f20 e), fun e => ⟨(Act.eval_put_ne _ 8 6 _ (by decide)).trans (h'.f6 e).1, (h'.f6 e).2⟩, fun e => ⟨(Act.eval_put_ne _ 8 7 _ (by decide)).trans (h'.f7 e).1, (h'.f7 e).2⟩, fun _ => ⟨Act.eval_put_same _ _ _ (by rw [h.fx.sz]; omega), h.below.size, _, heap_alloc_new _ _, by simp, fun e => by rw [hsf] at e; cases e⟩, h.ne, h.o6, h.o7, fun _ => rfl⟩
theorem Ph.s6 (h : Ph W0 V18 V19 V20 A c a0 p0 c1 c2 l m6 m7 m8 s1 s2 s3 g6 g7 g8 a w) (hm : m6 = true) (hV : V18.size = 64) : Ph W0 V18 V19 V20 A c a0 p0 c1 c2 l m6 m7 m8 true s2 s3 g6 g7 g8 a (w.setRow g6 V18) := by
  refine ⟨h.fx, below_setRow h.below (h.f6 hm).2.1, h.f17, h.f18, h.f19, h.f20, fun e => by
    obtain ⟨h1, h2, Z, h3, h4⟩ := h.f6 e
    exact ⟨h1, h2, _, setRow_heap w g6 Z _ _ (0, 0) h3, hV, fun _ => rfl⟩, fun e => by
    obtain ⟨h1, h2, Z, h3, h4⟩ := h.f7 e
    exact ⟨h1, h2, Z, by
      rw [setRow_other _ _ _ _ (fun x => h.ne hm e (x.symm))]; exact h3, h4⟩, fun e => by
    obtain ⟨h1, h2, Z, h3, h4⟩ := h.f8 e
    exact ⟨h1, h2, Z, by
      rw [setRow_other _ _ _ _ (fun x => by subst x; obtain ⟨_, _, Z2, k3, _⟩ := h.f6 hm; rw [h3] at k3; injection k3 with k3; injection k3 with _ k3; revert k3; decide)]; exact h3, h4⟩, h.ne, fun _ => hm, h.o7, h.o8⟩
theorem Ph.s7 (h : Ph W0 V18 V19 V20 A c a0 p0 c1 c2 l m6 m7 m8 s1 s2 s3 g6 g7 g8 a w) (hm : m7 = true) (hV : V19.size = 64) : Ph W0 V18 V19 V20 A c a0 p0 c1 c2 l m6 m7 m8 s1 true s3 g6 g7 g8 a (w.setRow g7 V19) := by
  refine ⟨h.fx, below_setRow h.below (h.f7 hm).2.1, h.f17, h.f18, h.f19, h.f20, fun e => by
    obtain ⟨h1, h2, Z, h3, h4⟩ := h.f6 e
    exact ⟨h1, h2, Z, by
      rw [setRow_other _ _ _ _ (fun x => h.ne e hm x)]; exact h3, h4⟩, fun e => by
    obtain ⟨h1, h2, Z, h3, h4⟩ := h.f7 e
    exact ⟨h1, h2, _, setRow_heap w g7 Z _ _ (0, 0) h3, hV, fun _ => rfl⟩, fun e => by
    obtain ⟨h1, h2, Z, h3, h4⟩ := h.f8 e
    exact ⟨h1, h2, Z, by
      rw [setRow_other _ _ _ _ (fun x => by subst x; obtain ⟨_, _, Z2, k3, _⟩ := h.f7 hm; rw [h3] at k3; injection k3 with k3; injection k3 with _ k3; revert k3; decide)]; exact h3, h4⟩, h.ne, h.o6, fun _ => hm, h.o8⟩
theorem Ph.s8 (h : Ph W0 V18 V19 V20 A c a0 p0 c1 c2 l m6 m7 m8 s1 s2 s3 g6 g7 g8 a w) (hm : m8 = true) (hV : V20.size = 8) : Ph W0 V18 V19 V20 A c a0 p0 c1 c2 l m6 m7 m8 s1 s2 true g6 g7 g8 a (w.setRow g8 V20) := by
  refine ⟨h.fx, below_setRow h.below (h.f8 hm).2.1, h.f17, h.f18, h.f19, h.f20, fun e => by
    obtain ⟨h1, h2, Z, h3, h4⟩ := h.f6 e
    exact ⟨h1, h2, Z, by
      rw [setRow_other _ _ _ _ (fun x => by subst x; obtain ⟨_, _, Z2, k3, _⟩ := h.f8 hm; rw [h3] at k3; injection k3 with k3; injection k3 with _ k3; revert k3; decide)]; exact h3, h4⟩, fun e => by
    obtain ⟨h1, h2, Z, h3, h4⟩ := h.f7 e
    exact ⟨h1, h2, Z, by
      rw [setRow_other _ _ _ _ (fun x => by subst x; obtain ⟨_, _, Z2, k3, _⟩ := h.f8 hm; rw [h3] at k3; injection k3 with k3; injection k3 with _ k3; revert k3; decide)]; exact h3, h4⟩, fun e => by
    obtain ⟨h1, h2, Z, h3, h4⟩ := h.f8 e
    exact ⟨h1, h2, _, setRow_heap w g8 Z _ _ (0, 0) h3, hV, fun _ => rfl⟩, h.ne, h.o6, h.o7, fun _ => hm⟩
end
theorem stepRegion {Q : Exit → Act → World → Prop} (b : List UInt8) (V20 : Array Value) (A : Option Addr) (c g0 : Nat) (a0 : Act) (W0 : World) (hs : 20 < a0.tmps.size)
    (e1 : a0.eval (.tmp 1) = .slice A 64 c) (e2 : a0.eval (.tmp 2) = .pointer (some ⟨g0, 0, none⟩)) (hg0 : W0.heap[g0]? = some (.cells V20 43 (0, 0))) (hV20 : V20.size = 8) (hone : V20.all (·.oneCell') = true)
    (hA : BytesAt W0 A b) (hl : b.length = 64)
    (hQ : ∀ g6 g7 g8 a w, Ph W0 (wcells (Sh.sched b 64)).toArray (wcells Sh.ks).toArray V20 A c a0 true true true true true true true true true true g6 g7 g8 a w → Q .normal a w) :
    wpAny Try.prog .any stepOps Q 10 (Array.replicate 10 false) a0 W0.drew := by
  have hV18 : (wcells (Sh.sched b 64)).toArray.size = 64 := by simp [wcells_length, Sh.sched_length]
  have hV19 : (wcells Sh.ks).toArray.size = 64 := by simp [wcells_length, Sh.ks_length]
  have hi45 : (Try.prog.info? 53).map (·.size) = some 64 := by kernel_rfl
  have hi23 : (Try.prog.info? 43).map (·.size) = some 8 := by kernel_rfl
  refine wpAny_inv (fun f L a w => ∃ (p0 c1 c2 l m6 m7 m8 s1 s2 s3 : Bool) (g6 g7 g8 : Nat), L = rz p0 c1 c2 l m6 m7 m8 s1 s2 s3 ∧ f = nf p0 + nf c1 + nf c2 + nf l + nf m6 + nf m7 + nf m8 + nf s1 + nf s2 + nf s3 ∧
    Ph W0 (wcells (Sh.sched b 64)).toArray (wcells Sh.ks).toArray V20 A c a0 p0 c1 c2 l m6 m7 m8 s1 s2 s3 g6 g7 g8 a w) ?h0 ?hs 10 _ _ _ ?st
  case st =>
    refine ⟨false, false, false, false, false, false, false, false, false, false, 0, 0, 0, rfl, rfl, ⟨rfl, rfl, fun _ _ => rfl⟩, (Below.refl _ _).drew, ?_, ?_, ?_, ?_, ?_, ?_, ?_, ?_, ?_, ?_, ?_⟩
    all_goals (intro e; cases e)
  case h0 =>
    rintro L a w ⟨p0, c1, c2, l, m6, m7, m8, s1, s2, s3, g6, g7, g8, rfl, hf, h⟩
    have key : p0 = true ∧ c1 = true ∧ c2 = true ∧ l = true ∧ m6 = true ∧ m7 = true ∧ m8 = true ∧ s1 = true ∧ s2 = true ∧ s3 = true := by
      exact ⟨nf0 (by omega), nf0 (by omega), nf0 (by omega), nf0 (by omega), nf0 (by omega), nf0 (by omega), nf0 (by omega), nf0 (by omega), nf0 (by omega), nf0 (by omega)⟩
    obtain ⟨rfl, rfl, rfl, rfl, rfl, rfl, rfl, rfl, rfl, rfl⟩ := key
    exact ⟨rdy1, hQ _ _ _ _ _ h⟩
  case hs =>
    rintro f L a w ⟨p0, c1, c2, l, m6, m7, m8, s1, s2, s3, g6, g7, g8, rfl, hf, h⟩
    refine ⟨fun e => ?_, fun i hi => ?_⟩
    · have := rdy0 _ _ _ _ _ _ _ _ _ _ e
      simp only [Bool.and_eq_true] at this
      obtain ⟨⟨⟨⟨⟨⟨⟨⟨⟨rfl, rfl⟩, rfl⟩, rfl⟩, rfl⟩, rfl⟩, rfl⟩, rfl⟩, rfl⟩, rfl⟩ := this
      simp [nf] at hf
    · obtain ⟨hlt, hfl, hneed⟩ := ready_spec hi
      rw [stepSize] at hlt
      have hcnt : ∀ x y : Bool, x = false → nf x = nf true + 1 := by rintro _ _ rfl; rfl
      rcases (show i = 0 ∨ i = 1 ∨ i = 2 ∨ i = 3 ∨ i = 4 ∨ i = 5 ∨ i = 6 ∨ i = 7 ∨ i = 8 ∨ i = 9 by omega) with rfl | rfl | rfl | rfl | rfl | rfl | rfl | rfl | rfl | rfl
      · obtain rfl : p0 = false := hfl
        obtain ⟨o, ho, hg, hd, hop⟩ := op0
        refine wpOp_of ho hg (wp_move_ _ hop ⟨true, c1, c2, l, m6, m7, m8, s1, s2, s3, g6, g7, g8, rfl, by simp only [nf] at hf ⊢; simp at hf ⊢; omega, ?_⟩)
        rw [hd, h.fx.eval rfl, e1]
        exact h.p17 hs
      · obtain rfl : c1 = false := hfl
        obtain ⟨o, ho, hg, hd, hop⟩ := op1
        have hp : p0 = true := hneed 0 (by kernel_rfl)
        have hv : (#[Operand.tmp 17] : Array Operand).map a.eval = #[.slice A 64 c] := by simp [h.f17 hp]
        refine wpOp_of ho hg (wp_call_ _ _ _ _ hop hv (fun wx => by rw [← hv]; exact enter_call _ Try.f39 _ _ hop Try.func39 (by kernel_rfl) (by kernel_rfl)) ?_)
        refine (shaschedule b A c w (hA.below h.below (Nat.le_refl _)) hl).mono ?_
        rintro e w' ⟨rfl, hb⟩
        refine ⟨_, rfl, p0, true, c2, l, m6, m7, m8, s1, s2, s3, g6, g7, g8, rfl, by simp only [nf] at hf ⊢; simp at hf ⊢; omega, ?_⟩
        rw [hd]
        exact (h.world hb).p18 hs
      · obtain rfl : c2 = false := hfl
        obtain ⟨o, ho, hg, hd, hop⟩ := op2
        have hv : (#[] : Array Operand).map a.eval = #[] := by simp
        refine wpOp_of ho hg (wp_call_ _ _ _ #[] hop hv (fun wx => by rw [← hv]; exact enter_call _ Try.f40 _ _ hop Try.func40 (by kernel_rfl) (by kernel_rfl)) ?_)
        refine (shakeys w).mono ?_
        rintro e w' ⟨rfl, hb⟩
        refine ⟨_, rfl, p0, c1, true, l, m6, m7, m8, s1, s2, s3, g6, g7, g8, rfl, by simp only [nf] at hf ⊢; simp at hf ⊢; omega, ?_⟩
        rw [hd]
        exact (h.world hb).p19 hs
      · obtain rfl : l = false := hfl
        obtain ⟨o, ho, hg, hd, hop⟩ := op3
        refine wpOp_of ho hg (wp_load_row _ _ hop g0 ((h.fx.eval rfl).trans e2) _ _ _ (.array 8 42) ((h.below.block _ (lt_of_heap hg0)).trans hg0) (by kernel_rfl) rfl (by rw [hi23, hV20]) ⟨p0, c1, c2, true, m6, m7, m8, s1, s2, s3, g6, g7, g8, rfl, by simp only [nf] at hf ⊢; simp at hf ⊢; omega, ?_⟩)
        rw [hd]
        exact h.p20 hs
      · obtain rfl : m6 = false := hfl
        obtain ⟨o, ho, hg, hd, hop⟩ := op4
        have hsf : s1 = false := by
          cases hx : s1 with
          | false => rfl
          | true => exact absurd (h.o6 hx) (by decide)
        · refine wpOp_of ho hg (wp_alloc_ _ _ hop (alloc45 w) ⟨p0, c1, c2, l, true, m7, m8, s1, s2, s3, w.heap.size, g7, g8, rfl, by simp only [nf] at hf ⊢; simp at hf ⊢; omega, ?_⟩)
          rw [hd]
          exact h.a6 hs hsf
      · obtain rfl : m7 = false := hfl
        obtain ⟨o, ho, hg, hd, hop⟩ := op5
        have hsf : s2 = false := by
          cases hx : s2 with
          | false => rfl
          | true => exact absurd (h.o7 hx) (by decide)
        · refine wpOp_of ho hg (wp_alloc_ _ _ hop (alloc45 w) ⟨p0, c1, c2, l, m6, true, m8, s1, s2, s3, g6, w.heap.size, g8, rfl, by simp only [nf] at hf ⊢; simp at hf ⊢; omega, ?_⟩)
          rw [hd]
          exact h.a7 hs hsf
      · obtain rfl : m8 = false := hfl
        obtain ⟨o, ho, hg, hd, hop⟩ := op6
        have hsf : s3 = false := by
          cases hx : s3 with
          | false => rfl
          | true => exact absurd (h.o8 hx) (by decide)
        · refine wpOp_of ho hg (wp_alloc_ _ _ hop (alloc23 w) ⟨p0, c1, c2, l, m6, m7, true, s1, s2, s3, g6, g7, w.heap.size, rfl, by simp only [nf] at hf ⊢; simp at hf ⊢; omega, ?_⟩)
          rw [hd]
          exact h.a8 hs hsf
      · obtain rfl : s1 = false := hfl
        obtain ⟨o, ho, hg, hd, hop⟩ := op7
        have hm : m6 = true := hneed 4 (by kernel_rfl)
        have hc : c1 = true := hneed 1 (by kernel_rfl)
        obtain ⟨k1, k2, Z, k3, k4, k5⟩ := h.f6 hm
        refine wpOp_of ho hg (wp_store_row _ _ _ hop g6 _ k1 (h.f18 hc) _ _ k3 (by rw [hi45, hV18]) (by rw [hV18]; exact k4) (wcells_one _) ⟨p0, c1, c2, l, m6, m7, m8, true, s2, s3, g6, g7, g8, rfl, by simp only [nf] at hf ⊢; simp at hf ⊢; omega, ?_⟩)
        rw [hd]
        exact h.s6 hm hV18
      · obtain rfl : s2 = false := hfl
        obtain ⟨o, ho, hg, hd, hop⟩ := op8
        have hm : m7 = true := hneed 5 (by kernel_rfl)
        have hc : c2 = true := hneed 2 (by kernel_rfl)
        obtain ⟨k1, k2, Z, k3, k4, k5⟩ := h.f7 hm
        refine wpOp_of ho hg (wp_store_row _ _ _ hop g7 _ k1 (h.f19 hc) _ _ k3 (by rw [hi45, hV19]) (by rw [hV19]; exact k4) (wcells_one _) ⟨p0, c1, c2, l, m6, m7, m8, s1, true, s3, g6, g7, g8, rfl, by simp only [nf] at hf ⊢; simp at hf ⊢; omega, ?_⟩)
        rw [hd]
        exact h.s7 hm hV19
      · obtain rfl : s3 = false := hfl
        obtain ⟨o, ho, hg, hd, hop⟩ := op9
        have hm : m8 = true := hneed 6 (by kernel_rfl)
        have hc : l = true := hneed 3 (by kernel_rfl)
        obtain ⟨k1, k2, Z, k3, k4, k5⟩ := h.f8 hm
        refine wpOp_of ho hg (wp_store_row _ _ _ hop g8 _ k1 (h.f20 hc) _ _ k3 (by rw [hi23, hV20]) (by rw [hV20]; exact k4) hone ⟨p0, c1, c2, l, m6, m7, m8, s1, s2, true, g6, g7, g8, rfl, by simp only [nf] at hf ⊢; simp at hf ⊢; omega, ?_⟩)
        rw [hd]
        exact h.s8 hm hV20
end Go.Proofs.Ytofjfpnkdcpngaa
