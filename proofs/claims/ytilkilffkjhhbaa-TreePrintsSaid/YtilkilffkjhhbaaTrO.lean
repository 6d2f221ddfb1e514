/-
  An expression, and a program, that came in by value, opened.
-/
import Derived.Test.YtilkilffkjhhbaaTrPg
import Derived.ProofKit
import Derived.Deep.Slices
namespace Go.Proofs.Ytilkilffkjhhbaa
set_option maxRecDepth 20000
set_option linter.unusedVariables false
open Go.RowKit Go.ChangeShapes Go.WideShapes Go.Deep Tr Mem

theorem AtL.mk_ {w : World} {K : Nat → Prop} {b : Nat} (hK : K b) : ∀ (s : List Ex) (off : Nat), (∀ i (h : i < s.length), w.cell? ⟨b, off + i * 4, none⟩ = some (.int .i64 (s[i]'h).kind) ∧ w.cell? ⟨b, off + i * 4 + 1, none⟩ = some (.int .i32 (s[i]'h).n) ∧
    w.cell? ⟨b, off + i * 4 + 2, none⟩ = some (.string ⟨(s[i]'h).name.toArray⟩) ∧ ∃ A' c', w.cell? ⟨b, off + i * 4 + 3, none⟩ = some (.slice A' (s[i]'h).sub.length c') ∧ At w K (s[i]'h) A') → AtL w K s (some ⟨b, off, none⟩)
  | [], _, _ => atL_nil _ _ _
  | x :: r, off, h => by
    rw [atL_cons]
    obtain ⟨h0, h1, h2, A', c', h3, h4⟩ := h 0 (by simp)
    simp only [Nat.zero_mul, Nat.add_zero, List.getElem_cons_zero] at h0 h1 h2 h3 h4
    refine ⟨⟨b, off, rfl, hK, h0, h1, h2, A', c', h3, h4⟩, ?_⟩
    refine AtL.mk_ hK r (off + 4) (fun i hi => ?_)
    have e : off + (i + 1) * 4 = off + 4 + i * 4 := by omega
    have := h (i + 1) (by simpa using hi)
    rw [e] at this
    simpa using this
theorem wfi32 {a : Int} (h : (Lit.int .i32 a).wf = true) : -2147483648 ≤ a ∧ a ≤ 2147483647 := by
  have h2 := (Lit.wf_int_iff _ _).1 h
  have e1 : IntKind.i32.min = -2147483648 := by decide
  have e2 : IntKind.i32.max = 2147483647 := by decide
  rw [e1, e2] at h2
  omega
theorem size_len {s : ByteArray} (h : s.size ≤ maxLen) : s.data.toList.length ≤ maxLen := h
section
variable {H : Type} {enc : TypeId × Value → H} {w : World} {spare : Nat → Bool} {held : Bool}
theorem cI : Try.prog.cellsOf 3 = 1 := by kernel_rfl
theorem cI32 : Try.prog.cellsOf 21 = 1 := by kernel_rfl
theorem cS : Try.prog.cellsOf 9 = 1 := by kernel_rfl
theorem cE : Try.prog.cellsOf 43 = 4 := by kernel_rfl
theorem cSE : Try.prog.cellsOf 41 = 1 := by kernel_rfl
theorem cV : Try.prog.cellsOf 73 = 4 := by kernel_rfl
theorem cC : Try.prog.cellsOf 71 = 2 := by kernel_rfl
theorem cQ : Try.prog.cellsOf 56 = 10 := by kernel_rfl
theorem cSV : Try.prog.cellsOf 23 = 1 := by kernel_rfl
theorem cSQ : Try.prog.cellsOf 24 = 1 := by kernel_rfl
theorem cP : Try.prog.cellsOf 26 = 5 := by kernel_rfl
theorem list_of {α : Type} {xs : List α} {n i : Nat} (h : xs.length = n) (hi : i < n) : ∃ y, xs[i]? = some y := ⟨xs[i]'(by omega), List.getElem?_eq_getElem _⟩
theorem trod_expr : ∀ (fuel : Nat) (cs : List Value) (x : DataW H × List MemPlace), DataW.trod enc Try.prog w 0 spare held fuel 43 cs = some x →
    ∃ (e : Ex) (A : Option Addr) (c : Nat), cs = [.int .i64 e.kind, .int .i32 e.n, .string ⟨e.name.toArray⟩, .slice A e.sub.length c] ∧ At w (fun _ => True) e A ∧ Fit e := by
  intro fuel
  induction fuel using Nat.strongRecOn with
  | _ fuel ih =>
    intro cs x hf
    obtain ⟨xs, n, hn, _, hcl, hlen, hg⟩ := DataW.trod_struct Try.underlying43 hf
    rw [cE] at hcl
    match cs, hcl with
    | [c0, c1, c2, c3], _ =>
      obtain ⟨y0, hy0⟩ := list_of hlen (i := 0) (by decide)
      obtain ⟨y1, hy1⟩ := list_of hlen (i := 1) (by decide)
      obtain ⟨y2, hy2⟩ := list_of hlen (i := 2) (by decide)
      obtain ⟨y3, hy3⟩ := list_of hlen (i := 3) (by decide)
      have g0 : DataW.trod enc Try.prog w 0 spare held n 3 (([c0, c1, c2, c3].drop 0).take (Try.prog.cellsOf 3)) = xs[0]? := hg 0 _ rfl
      have g1 : DataW.trod enc Try.prog w 0 spare held n 21 (([c0, c1, c2, c3].drop 1).take (Try.prog.cellsOf 21)) = xs[1]? := hg 1 _ rfl
      have g2 : DataW.trod enc Try.prog w 0 spare held n 9 (([c0, c1, c2, c3].drop 2).take (Try.prog.cellsOf 9)) = xs[2]? := hg 2 _ rfl
      have g3 : DataW.trod enc Try.prog w 0 spare held n 41 (([c0, c1, c2, c3].drop 3).take (Try.prog.cellsOf 41)) = xs[3]? := hg 3 _ rfl
      rw [cI, hy0] at g0
      rw [cI32, hy1] at g1
      rw [cS, hy2] at g2
      rw [cSE, hy3] at g3
      obtain ⟨n0, e0, _, w0⟩ := DataW.trod_int Try.underlying3 g0
      obtain ⟨n1, e1, _, w1⟩ := DataW.trod_int Try.underlying21 g1
      obtain ⟨s2, e2, _, w2⟩ := DataW.trod_string Try.underlying9 g2
      simp at e0 e1 e2
      subst e0 e1 e2
      have g3' : DataW.trod enc Try.prog w 0 spare held n 41 [c3] = some y3 := g3
      rcases DataW.trod_slice Try.underlying41 g3' with ⟨hcs, _⟩ | ⟨a, len, cap, elems, rest, n2, hn2, hcs, _, _, hlc, hcm, hel, hi, _, _⟩
      · simp at hcs
        subst hcs
        refine ⟨.mk n0 n1 s2.data.toList [], none, 0, by simp [Ex.kind, Ex.n, Ex.name, Ex.sub], ?_, ?_⟩
        · rw [at_eq]; exact atL_nil _ _ _
        · rw [fit_eq]; exact ⟨wfi32 w1, size_len w2, by simp, fitL_nil⟩
      · simp at hcs
        subst hcs
        have each : ∀ i, i < len → ∃ q : Ex × Option Addr × Nat, (w.cell? ((a.add (i * 4)).add 0) = some (.int .i64 q.1.kind) ∧ w.cell? ((a.add (i * 4)).add 1) = some (.int .i32 q.1.n) ∧ w.cell? ((a.add (i * 4)).add 2) = some (.string ⟨q.1.name.toArray⟩) ∧
            w.cell? ((a.add (i * 4)).add 3) = some (.slice q.2.1 q.1.sub.length q.2.2)) ∧ At w (fun _ => True) q.1 q.2.1 ∧ Fit q.1 := by
          intro i him
          have hb := hi i him
          rw [List.getElem?_eq_getElem (by omega)] at hb
          obtain ⟨cs', hc, ht⟩ := Option.bind_eq_some_iff.1 hb
          rw [cE] at hc
          obtain ⟨_, hcl, hat⟩ := World.cells?_some hc
          obtain ⟨e, A, c, rfl, hA, hF⟩ := ih n2 (by omega) _ _ ht
          exact ⟨⟨e, A, c⟩, ⟨hat 0 (by simp), hat 1 (by simp), hat 2 (by simp), hat 3 (by simp)⟩, hA, hF⟩
        haveI : Inhabited (Ex × Option Addr × Nat) := ⟨⟨Ex.zero, none, 0⟩⟩
        obtain ⟨f, hff⟩ := choose_lt each
        have hl : ((List.range len).map fun i => (f i).1).length = len := by simp
        refine ⟨.mk n0 n1 s2.data.toList ((List.range len).map fun i => (f i).1), some a, cap, by simp [Ex.kind, Ex.n, Ex.name, Ex.sub], ?_, ?_⟩
        · rw [at_eq]
          obtain ⟨b, off, sp⟩ := a
          by_cases h0 : len = 0
          · subst h0; exact atL_nil _ _ _
          have hsp : sp = none := by
            have h := World.cell?_spot (hff 0 (by omega)).1.1
            simpa [Addr.add] using h
          subst hsp
          refine AtL.mk_ trivial _ off (fun i hi' => ?_)
          rw [hl] at hi'
          obtain ⟨⟨a0, a1, a2, a3⟩, hA, _⟩ := hff i hi'
          rw [Mem.add_plain, Mem.add_plain] at a0 a1 a2 a3
          simp only [List.getElem_map, List.getElem_range]
          exact ⟨by simpa using a0, a1, a2, _, _, a3, hA⟩
        · rw [fit_eq]
          refine ⟨wfi32 w1, size_len w2, by rw [hl]; omega, FitL.mk fun y hy => ?_⟩
          obtain ⟨i, hi', rfl⟩ := List.mem_map.1 hy
          exact (hff i (by simpa using hi')).2.2
theorem trod_vars {fuel : Nat} {c0 : Value} {x : DataW H × List MemPlace} (hf : DataW.trod enc Try.prog w 0 spare held fuel 23 [c0] = some x) :
    ∃ (A : Option Addr) (c : Nat) (l : List Vr), c0 = .slice A l.length c ∧ VarsAt w A l ∧ l.length ≤ maxLen ∧ ∀ v ∈ l, VrFit v := by
  rcases DataW.trod_slice Try.underlying23 hf with ⟨hcs, _⟩ | ⟨a, len, cap, elems, rest, n2, hn2, hcs, _, _, hlc, hcm, hel, hi, _, _⟩
  · simp at hcs
    subst hcs
    exact ⟨none, 0, [], rfl, fun k h => by simp at h, by simp, fun v hv => by simp at hv⟩
  · simp at hcs
    subst hcs
    have each : ∀ i, i < len → ∃ v : Vr, (w.cell? ((a.add (i * 4)).add 0) = some (.string ⟨v.name.toArray⟩) ∧ w.cell? ((a.add (i * 4)).add 1) = some (.int .i64 v.type) ∧ w.cell? ((a.add (i * 4)).add 2) = some (.int .i64 v.ck) ∧ w.cell? ((a.add (i * 4)).add 3) = some (.string ⟨v.cn.toArray⟩)) ∧ VrFit v := by
      intro i him
      have hb := hi i him
      rw [List.getElem?_eq_getElem (by omega)] at hb
      obtain ⟨cs', hc, ht⟩ := Option.bind_eq_some_iff.1 hb
      rw [cV] at hc
      obtain ⟨_, hcl, hat⟩ := World.cells?_some hc
      match cs', hcl with
      | [c0, c1, c2, c3], _ =>
        obtain ⟨xs, n, hn, _, _, hlen, hg⟩ := DataW.trod_struct Try.underlying73 ht
        obtain ⟨y0, hy0⟩ := list_of hlen (i := 0) (by decide)
        obtain ⟨y1, hy1⟩ := list_of hlen (i := 1) (by decide)
        obtain ⟨y2, hy2⟩ := list_of hlen (i := 2) (by decide)
        have g0 : DataW.trod enc Try.prog w 0 spare held n 9 (([c0, c1, c2, c3].drop 0).take (Try.prog.cellsOf 9)) = xs[0]? := hg 0 _ rfl
        have g1 : DataW.trod enc Try.prog w 0 spare held n 3 (([c0, c1, c2, c3].drop 1).take (Try.prog.cellsOf 3)) = xs[1]? := hg 1 _ rfl
        have g2 : DataW.trod enc Try.prog w 0 spare held n 71 (([c0, c1, c2, c3].drop 2).take (Try.prog.cellsOf 71)) = xs[2]? := hg 2 _ rfl
        rw [cS, hy0] at g0
        rw [cI, hy1] at g1
        rw [cC, hy2] at g2
        have g2' : DataW.trod enc Try.prog w 0 spare held n 71 [c2, c3] = some y2 := g2
        obtain ⟨zs, n', _, _, _, hlen2, hg2⟩ := DataW.trod_struct Try.underlying71 g2'
        obtain ⟨z0, hz0⟩ := list_of hlen2 (i := 0) (by decide)
        obtain ⟨z1, hz1⟩ := list_of hlen2 (i := 1) (by decide)
        have q0 : DataW.trod enc Try.prog w 0 spare held n' 3 (([c2, c3].drop 0).take (Try.prog.cellsOf 3)) = zs[0]? := hg2 0 _ rfl
        have q1 : DataW.trod enc Try.prog w 0 spare held n' 9 (([c2, c3].drop 1).take (Try.prog.cellsOf 9)) = zs[1]? := hg2 1 _ rfl
        rw [cI, hz0] at q0
        rw [cS, hz1] at q1
        obtain ⟨s0, e0, _, w0⟩ := DataW.trod_string Try.underlying9 g0
        obtain ⟨n1, e1, _, w1⟩ := DataW.trod_int Try.underlying3 g1
        obtain ⟨n2, e2, _, w2⟩ := DataW.trod_int Try.underlying3 q0
        obtain ⟨s3, e3, _, w3⟩ := DataW.trod_string Try.underlying9 q1
        simp at e0 e1 e2 e3
        subst e0 e1 e2 e3
        exact ⟨⟨s0.data.toList, n1, n2, s3.data.toList⟩, ⟨hat 0 (by simp), hat 1 (by simp), hat 2 (by simp), hat 3 (by simp)⟩, size_len w0, size_len w3⟩
    haveI : Inhabited Vr := ⟨Vr.zero⟩
    obtain ⟨f, hff⟩ := choose_lt each
    refine ⟨some a, cap, (List.range len).map f, by simp, fun k hk => ?_, by simp; omega, fun v hv => ?_⟩
    · have hk' : k < len := by simpa using hk
      obtain ⟨⟨a0, a1, a2, a3⟩, _⟩ := hff k hk'
      obtain ⟨b, off, sp⟩ := a
      have hsp : sp = none := by
        have h := World.cell?_spot (hff 0 (by omega)).1.1
        simpa [Addr.add] using h
      subst hsp
      rw [Mem.add_plain, Mem.add_plain] at a0 a1 a2 a3
      exact ⟨b, off, rfl, by simpa using a0, by simpa using a1, by simpa using a2, by simpa using a3⟩
    · obtain ⟨i, hi', rfl⟩ := List.mem_map.1 hv
      exact (hff i (by simpa using hi')).2
theorem trod_eqs {fuel : Nat} {c0 : Value} {x : DataW H × List MemPlace} (hf : DataW.trod enc Try.prog w 0 spare held fuel 24 [c0] = some x) :
    ∃ (A : Option Addr) (c : Nat) (l : List Eqn), c0 = .slice A l.length c ∧ EqsAt w (fun _ => True) A l ∧ l.length ≤ maxLen ∧ ∀ q ∈ l, EqFit q := by
  rcases DataW.trod_slice Try.underlying24 hf with ⟨hcs, _⟩ | ⟨a, len, cap, elems, rest, n2, hn2, hcs, _, _, hlc, hcm, hel, hi, _, _⟩
  · simp at hcs
    subst hcs
    exact ⟨none, 0, [], rfl, fun k h => by simp at h, by simp, fun v hv => by simp at hv⟩
  · simp at hcs
    subst hcs
    have each : ∀ i, i < len → ∃ q : Eqn × Option Addr × Nat × Option Addr × Nat, (∀ (j : Nat) (v : Value), (eqCells q.1 q.2.1 q.2.2.1 q.2.2.2.1 q.2.2.2.2)[j]? = some v → w.cell? ((a.add (i * 10)).add j) = some v) ∧ At w (fun _ => True) q.1.first q.2.1 ∧ At w (fun _ => True) q.1.e q.2.2.2.1 ∧ EqFit q.1 := by
      intro i him
      have hb := hi i him
      rw [List.getElem?_eq_getElem (by omega)] at hb
      obtain ⟨cs', hc, ht⟩ := Option.bind_eq_some_iff.1 hb
      rw [cQ] at hc
      obtain ⟨_, hcl, hat⟩ := World.cells?_some hc
      match cs', hcl with
      | [c0, c1, c2, c3, c4, c5, c6, c7, c8, c9], _ =>
        obtain ⟨xs, n, hn, _, _, hlen, hg⟩ := DataW.trod_struct Try.underlying56 ht
        obtain ⟨y0, hy0⟩ := list_of hlen (i := 0) (by decide)
        obtain ⟨y1, hy1⟩ := list_of hlen (i := 1) (by decide)
        obtain ⟨y2, hy2⟩ := list_of hlen (i := 2) (by decide)
        obtain ⟨y3, hy3⟩ := list_of hlen (i := 3) (by decide)
        have g0 : DataW.trod enc Try.prog w 0 spare held n 9 (([c0, c1, c2, c3, c4, c5, c6, c7, c8, c9].drop 0).take (Try.prog.cellsOf 9)) = xs[0]? := hg 0 _ rfl
        have g1 : DataW.trod enc Try.prog w 0 spare held n 3 (([c0, c1, c2, c3, c4, c5, c6, c7, c8, c9].drop 1).take (Try.prog.cellsOf 3)) = xs[1]? := hg 1 _ rfl
        have g2 : DataW.trod enc Try.prog w 0 spare held n 43 (([c0, c1, c2, c3, c4, c5, c6, c7, c8, c9].drop 2).take (Try.prog.cellsOf 43)) = xs[2]? := hg 2 _ rfl
        have g3 : DataW.trod enc Try.prog w 0 spare held n 43 (([c0, c1, c2, c3, c4, c5, c6, c7, c8, c9].drop 6).take (Try.prog.cellsOf 43)) = xs[3]? := hg 3 _ rfl
        rw [cS, hy0] at g0
        rw [cI, hy1] at g1
        rw [cE, hy2] at g2
        rw [cE, hy3] at g3
        obtain ⟨s0, e0, _, w0⟩ := DataW.trod_string Try.underlying9 g0
        obtain ⟨n1, e1, _, w1⟩ := DataW.trod_int Try.underlying3 g1
        obtain ⟨x2, A2, k2, e2, hA2, hF2⟩ := trod_expr _ _ _ g2
        obtain ⟨x3, A3, k3, e3, hA3, hF3⟩ := trod_expr _ _ _ g3
        simp at e0 e1 e2 e3
        obtain ⟨rfl, rfl, rfl, rfl⟩ := e2
        obtain ⟨rfl, rfl, rfl, rfl⟩ := e3
        subst e0 e1
        refine ⟨⟨⟨s0.data.toList, n1, x2, x3⟩, A2, k2, A3, k3⟩, fun j v hv => ?_, hA2, hA3, size_len w0, hF2, hF3⟩
        have hj : j < 10 := by have := (List.getElem?_eq_some_iff.1 hv).1; simpa [eqCells] using this
        have := hat j (by simpa using hj)
        rw [this, ← hv]
        unfold eqCells
        dsimp only
        first | done | exact (List.getElem?_eq_getElem _).symm
    haveI : Inhabited (Eqn × Option Addr × Nat × Option Addr × Nat) := ⟨⟨Eqn.zero, none, 0, none, 0⟩⟩
    obtain ⟨f, hff⟩ := choose_lt each
    refine ⟨some a, cap, (List.range len).map (fun i => (f i).1), by simp, fun k hk => ?_, by simp; omega, fun v hv => ?_⟩
    · have hk' : k < len := by simpa using hk
      obtain ⟨hcell, h1, h2, _⟩ := hff k hk'
      obtain ⟨b, off, sp⟩ := a
      have hsp : sp = none := by
        have h := World.cell?_spot ((hff 0 (by omega)).1 0 _ rfl)
        simpa [Addr.add] using h
      subst hsp
      refine ⟨b, off, (f k).2.1, (f k).2.2.1, (f k).2.2.2.1, (f k).2.2.2.2, rfl, ?_, ?_, fun j v hv => ?_⟩
      · simpa using h1
      · simpa using h2
      · have := hcell j v (by simpa using hv)
        rw [Mem.add_plain, Mem.add_plain] at this
        exact this
    · obtain ⟨i, hi', rfl⟩ := List.mem_map.1 hv
      exact (hff i (by simpa using hi')).2.2.2
theorem open_expr {b0 : Nat} {r : Reach} {v : Value} {d : DataW H} {p : List MemPlace}
    (hv : Value.okWide Try.prog w r b0 43 v) (h : DataW.Trod enc Try.prog w 0 spare held 43 v d p) (_hsz : ∀ n ∈ d.weights Try.prog 43, n ≤ reachBytes) :
    ∃ (x : Ex) (A : Option Addr) (c : Nat), v = exAgg x A c ∧ (At w (fun _ => True) x A ∧ Fit x) := by
  obtain ⟨cs, rfl, hsz⟩ := okWide_struct Try.underlying43 hv
  obtain ⟨fuel, hf⟩ := h
  obtain ⟨x, A, c, e, h1, h2⟩ := trod_expr _ _ _ hf
  refine ⟨x, A, c, ?_, h1, h2⟩
  unfold exAgg
  have e' : cs.toList = [.int .i64 x.kind, .int .i32 x.n, .string ⟨x.name.toArray⟩, .slice A x.sub.length c] := e
  rw [← e']
theorem open_pg {b0 : Nat} {r : Reach} {v : Value} {d : DataW H} {p : List MemPlace}
    (hv : Value.okWide Try.prog w r b0 26 v) (h : DataW.Trod enc Try.prog w 0 spare held 26 v d p) (_hsz : ∀ n ∈ d.weights Try.prog 26, n ≤ reachBytes) :
    ∃ (p : Pg) (L : Lie), v = pgAgg p L ∧ (PgAt w (fun _ => True) p L ∧ PgFit p) := by
  obtain ⟨cs, rfl, hsz⟩ := okWide_struct Try.underlying26 hv
  obtain ⟨fuel, hf⟩ := h
  obtain ⟨xs, n, hn, _, hcl, hlen, hg⟩ := DataW.trod_struct Try.underlying26 hf
  rw [cP] at hcl
  have hcl' : cs.toList.length = 5 := hcl
  obtain ⟨cs⟩ := cs
  match cs, hcl' with
  | [c0, c1, c2, c3, c4], _ =>
    obtain ⟨y0, hy0⟩ := list_of hlen (i := 0) (by decide)
    obtain ⟨y1, hy1⟩ := list_of hlen (i := 1) (by decide)
    obtain ⟨y2, hy2⟩ := list_of hlen (i := 2) (by decide)
    obtain ⟨y3, hy3⟩ := list_of hlen (i := 3) (by decide)
    obtain ⟨y4, hy4⟩ := list_of hlen (i := 4) (by decide)
    have g0 : DataW.trod enc Try.prog w 0 spare held n 9 (([c0, c1, c2, c3, c4].drop 0).take (Try.prog.cellsOf 9)) = xs[0]? := hg 0 _ rfl
    have g1 : DataW.trod enc Try.prog w 0 spare held n 23 (([c0, c1, c2, c3, c4].drop 1).take (Try.prog.cellsOf 23)) = xs[1]? := hg 1 _ rfl
    have g2 : DataW.trod enc Try.prog w 0 spare held n 23 (([c0, c1, c2, c3, c4].drop 2).take (Try.prog.cellsOf 23)) = xs[2]? := hg 2 _ rfl
    have g3 : DataW.trod enc Try.prog w 0 spare held n 23 (([c0, c1, c2, c3, c4].drop 3).take (Try.prog.cellsOf 23)) = xs[3]? := hg 3 _ rfl
    have g4 : DataW.trod enc Try.prog w 0 spare held n 24 (([c0, c1, c2, c3, c4].drop 4).take (Try.prog.cellsOf 24)) = xs[4]? := hg 4 _ rfl
    rw [cS, hy0] at g0
    rw [cSV, hy1] at g1
    rw [cSV, hy2] at g2
    rw [cSV, hy3] at g3
    rw [cSQ, hy4] at g4
    obtain ⟨s0, e0, _, w0⟩ := DataW.trod_string Try.underlying9 g0
    obtain ⟨A1, k1, l1, e1, v1, b1, f1⟩ := trod_vars (c0 := c1) g1
    obtain ⟨A2, k2, l2, e2, v2, b2, f2⟩ := trod_vars (c0 := c2) g2
    obtain ⟨A3, k3, l3, e3, v3, b3, f3⟩ := trod_vars (c0 := c3) g3
    obtain ⟨A4, k4, l4, e4, v4, b4, f4⟩ := trod_eqs (c0 := c4) g4
    simp at e0
    subst e0 e1 e2 e3 e4
    exact ⟨⟨s0.data.toList, l1, l2, l3, l4⟩, ⟨A1, k1, A2, k2, A3, k3, A4, k4⟩, rfl, ⟨v1, v2, v3, v4⟩, ⟨size_len w0, ⟨b1, f1⟩, ⟨b2, f2⟩, ⟨b3, f3⟩, ⟨b4, f4⟩⟩⟩
end
end Go.Proofs.Ytilkilffkjhhbaa
