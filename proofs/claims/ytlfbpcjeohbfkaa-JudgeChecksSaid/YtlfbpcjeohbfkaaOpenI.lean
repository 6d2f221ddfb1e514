/-
  A slice of instructions that came in, and one instruction by value, opened.
-/
import Derived.Test.YtlfbpcjeohbfkaaInsM
import Derived.OpenShut
import Derived.ProofKit
import Derived.SizedLaws
import Derived.DataShut
import Derived.Deep.Slices
import Derived.Lib.SmallJoins
namespace Go.Proofs.Ytlfbpcjeohbfkaa
open Go.RowKit Go.ChangeShapes Go.WideShapes Go.Deep Mem

theorem wf64 {a : Int} (h : (Lit.int .i64 a).wf = true) : -9223372036854775808 ≤ a ∧ a ≤ 9223372036854775807 := (Lit.wf_int_iff _ _).1 h
theorem wf32 {a : Int} (h : (Lit.int .i32 a).wf = true) : -2147483648 ≤ a ∧ a ≤ 2147483647 := (Lit.wf_int_iff _ _).1 h
/-- what is known of an instruction's two numbers -/
def InsOk (i : Ia.Ins) : Prop := (-9223372036854775808 ≤ i.op ∧ i.op ≤ 9223372036854775807) ∧ -2147483648 ≤ i.n ∧ i.n ≤ 2147483647
theorem insCells_get : ∀ (l : List Ia.Ins) (j : Nat) (u : Value), (insCells l)[j]? = some u → ∃ k, ∃ h : k < l.length, (j = k * 2 ∧ u = .int .i64 (l[k]'h).op) ∨ (j = k * 2 + 1 ∧ u = .int .i32 (l[k]'h).n)
  | [], j, u, h => by simp [insCells] at h
  | i :: r, 0, u, h => ⟨0, by simp, .inl ⟨rfl, by simpa [insCells] using h.symm⟩⟩
  | i :: r, 1, u, h => ⟨0, by simp, .inr ⟨rfl, by simpa [insCells] using h.symm⟩⟩
  | i :: r, j + 2, u, h => by
    obtain ⟨k, hk, h1⟩ := insCells_get r j u (by simpa [insCells] using h)
    refine ⟨k + 1, by simpa using hk, ?_⟩
    rcases h1 with ⟨rfl, rfl⟩ | ⟨rfl, rfl⟩
    · left; exact ⟨by omega, by simp⟩
    · right; exact ⟨by omega, by simp⟩
theorem bytesOfIns : Try.prog.bytesOf 40 = 16 := by kernel_rfl
theorem open_inss {H : Type} {enc : TypeId × Value → H} {w : World} {b0 : Nat} {spare : Nat → Bool} {held : Bool} {r : Reach} {v : Value} {d : DataW H} {p : List MemPlace}
    (hv : Value.okWide Try.prog w r b0 22 v) (h : DataW.Trod enc Try.prog w 0 spare held 22 v d p) (_hsz : ∀ n ∈ d.weights Try.prog 22, n ≤ reachBytes) :
    ∃ (A : Option Addr) (c : Nat) (l : List Ia.Ins), v = .slice A l.length c ∧ ISrc w A c l ∧ (∀ k (h : k < l.length), InsOk (l[k]'h)) ∧ l.length ≤ 8796093022202 := by
  obtain ⟨A, n, c, rfl⟩ := okWide_slice Try.underlying22 hv
  obtain ⟨fuel, hf⟩ := h
  have hC : Try.prog.cellsOf 40 = 2 := by kernel_rfl
  rcases open_slice Try.underlying22 hf with ⟨hcs, _⟩ | ⟨a, len, cap, m, k, D, Pl, hcs, hb, hl, hm, hmm, hx, hi⟩
  · simp [Value.cells] at hcs
    obtain ⟨rfl, rfl, rfl⟩ := hcs
    exact ⟨none, 0, [], rfl, ⟨by simp [insCells], fun _ => ⟨rfl, rfl⟩, fun ad h => (by cases h)⟩, fun k hk => by simp at hk, by simp⟩
  · simp [Value.cells] at hcs
    obtain ⟨rfl, rfl, rfl⟩ := hcs
    have hlm : n ≤ m := by rw [hmm]; split <;> omega
    simp only [Prod.mk.injEq] at hx
    obtain ⟨rfl, _⟩ := hx
    have hw := _hsz ((((List.range n).map D).length + ((List.range (m - n)).map fun j => D (n + j)).length) * Try.prog.bytesOf 40) (by simp [DataW.weights, Try.underlying22])
    rw [bytesOfIns] at hw
    simp only [List.length_map, List.length_range, reachBytes] at hw
    have each : ∀ i, i < n → ∃ t : Ia.Ins, w.cell? ((a.add (i * 2)).add 0) = some (.int .i64 t.op) ∧ w.cell? ((a.add (i * 2)).add 1) = some (.int .i32 t.n) ∧ InsOk t := by
      intro i him
      obtain ⟨cs', hc, ht⟩ := hi i (by omega)
      rw [hC] at hc
      obtain ⟨_, hcl, hat⟩ := World.cells?_some hc
      match cs', hcl with
      | [c0, c1], _ =>
        obtain ⟨xs, n', _, _, _, _, hg⟩ := DataW.trod_struct Try.underlying40 ht
        have g0 : DataW.trod enc Try.prog w 0 spare held n' 3 (([c0, c1].drop 0).take (Try.prog.cellsOf 3)) = xs[0]? := hg 0 _ rfl
        have g1 : DataW.trod enc Try.prog w 0 spare held n' 21 (([c0, c1].drop 1).take (Try.prog.cellsOf 21)) = xs[1]? := hg 1 _ rfl
        have one : ∀ t, t = 3 ∨ t = 21 → Try.prog.cellsOf t = 1 := by
          rintro t (rfl | rfl) <;> kernel_rfl
        rw [one _ (.inl rfl)] at g0
        rw [one _ (.inr rfl)] at g1
        obtain ⟨y0, hy0⟩ : ∃ y, xs[0]? = some y := ⟨xs[0]'(by simp_all), by simp_all⟩
        obtain ⟨y1, hy1⟩ : ∃ y, xs[1]? = some y := ⟨xs[1]'(by simp_all), by simp_all⟩
        rw [hy0] at g0
        rw [hy1] at g1
        obtain ⟨n0, e0, _, w0⟩ := DataW.trod_int Try.underlying3 g0
        obtain ⟨n1, e1, _, w1⟩ := DataW.trod_int Try.underlying21 g1
        simp at e0 e1
        subst e0 e1
        exact ⟨⟨n0, n1⟩, hat 0 (by omega), hat 1 (by omega), wf64 w0, wf32 w1⟩
    haveI : Inhabited Ia.Ins := ⟨Ia.nil⟩
    obtain ⟨f, hf⟩ := choose_lt each
    refine ⟨some a, c, (List.range n).map f, by simp, ⟨?_, fun h => (by cases h), ?_⟩, fun k hk => ?_, by simp; omega⟩
    · rw [insCells_length]
    · intro ad hx j u hu
      injection hx with hx
      subst hx
      obtain ⟨k, hk, h1⟩ := insCells_get _ j u hu
      have hk' : k < n := by simpa using hk
      obtain ⟨a0, a1, _⟩ := hf k hk'
      rw [Go.Deep.add_add] at a0 a1
      rcases h1 with ⟨rfl, rfl⟩ | ⟨rfl, rfl⟩
      · simpa using a0
      · simpa using a1
    · have hk' : k < n := by simpa using hk
      simpa using (hf k hk').2.2
theorem open_ins {H : Type} {enc : TypeId × Value → H} {w : World} {b0 : Nat} {spare : Nat → Bool} {held : Bool} {r : Reach} {v : Value} {d : DataW H} {p : List MemPlace}
    (hv : Value.okWide Try.prog w r b0 40 v) (h : DataW.Trod enc Try.prog w 0 spare held 40 v d p) (_hsz : ∀ n ∈ d.weights Try.prog 40, n ≤ reachBytes) :
    ∃ (i : Ia.Ins), v = insAgg i ∧ InsOk i := by
  obtain ⟨v0, v1, y0, y1, n, rfl, _, _, g0, g1⟩ := Go.Joins.open_agg2 Try.underlying40 (by kernel_rfl) (by kernel_rfl) hv h
  obtain ⟨n0, e0, _, w0⟩ := DataW.trod_int Try.underlying3 g0
  obtain ⟨n1, e1, _, w1⟩ := DataW.trod_int Try.underlying21 g1
  simp at e0 e1
  subst e0 e1
  exact ⟨⟨n0, n1⟩, rfl, wf64 w0, wf32 w1⟩
end Go.Proofs.Ytlfbpcjeohbfkaa
