/-
  A slice of tokens that came in, opened.
-/
import Derived.Test.YtjgklpjmbogimaaLexJ
import Derived.ProofKit
import Derived.Deep.Slices
namespace Go.Proofs.Ytjgklpjmbogimaa
open Go.RowKit Go.ChangeShapes Go.WideShapes Go.Deep

theorem add_plain (b off j : Nat) : (⟨b, off, none⟩ : Addr).add j = ⟨b, off + j, none⟩ := by
  unfold Addr.add; split
  · rename_i h; subst h; rfl
  · rfl
theorem open_toks {H : Type} {enc : TypeId × Value → H} {w : World} {base b0 : Nat} {spare : Nat → Bool} {held : Bool} {r : Reach} {v : Value} {d : DataW H} {p : List MemPlace}
    (hv : Value.okWide Try.prog w r b0 24 v) (h : DataW.Trod enc Try.prog w base spare held 24 v d p) :
    ∃ (A : Option Addr) (c : Nat) (ts : List Lx.Tok), v = .slice A ts.length c ∧ TokAt w A ts ∧ ts.length ≤ maxLen := by
  obtain ⟨A, n, c, rfl⟩ := okWide_slice Try.underlying24 hv
  obtain ⟨fuel, hf⟩ := h
  have hC : Try.prog.cellsOf 29 = 4 := by kernel_rfl
  rcases open_slice Try.underlying24 hf with ⟨hcs, _⟩ | ⟨a, len, cap, m, k, D, Pl, hcs, hb, hl, hm, hmm, hx, hi⟩
  · simp [Value.cells] at hcs
    obtain ⟨rfl, rfl, rfl⟩ := hcs
    exact ⟨none, 0, [], rfl, fun k hk => by simp at hk, by simp⟩
  · simp [Value.cells] at hcs
    obtain ⟨rfl, rfl, rfl⟩ := hcs
    have hlm : n ≤ m := by rw [hmm]; split <;> omega
    have each : ∀ i, i < n → ∃ t : Lx.Tok, w.cell? ((a.add (i * 4)).add 0) = some (.int .i64 t.kind) ∧ w.cell? ((a.add (i * 4)).add 1) = some (.string ⟨t.text.toArray⟩) ∧
        w.cell? ((a.add (i * 4)).add 2) = some (.int .i32 t.n) ∧ w.cell? ((a.add (i * 4)).add 3) = some (.int .i64 t.at_) := by
      intro i him
      obtain ⟨cs', hc, ht⟩ := hi i (by omega)
      rw [hC] at hc
      obtain ⟨_, hcl, hat⟩ := World.cells?_some hc
      match cs', hcl with
      | [c0, c1, c2, c3], _ =>
        obtain ⟨xs, n', _, _, _, _, hg⟩ := DataW.trod_struct Try.underlying29 ht
        have g0 : DataW.trod enc Try.prog w base spare held n' 3 (([c0, c1, c2, c3].drop 0).take (Try.prog.cellsOf 3)) = xs[0]? := hg 0 _ rfl
        have g1 : DataW.trod enc Try.prog w base spare held n' 9 (([c0, c1, c2, c3].drop 1).take (Try.prog.cellsOf 9)) = xs[1]? := hg 1 _ rfl
        have g2 : DataW.trod enc Try.prog w base spare held n' 21 (([c0, c1, c2, c3].drop 2).take (Try.prog.cellsOf 21)) = xs[2]? := hg 2 _ rfl
        have g3 : DataW.trod enc Try.prog w base spare held n' 3 (([c0, c1, c2, c3].drop 3).take (Try.prog.cellsOf 3)) = xs[3]? := hg 3 _ rfl
        have one : ∀ t, t = 3 ∨ t = 9 ∨ t = 21 → Try.prog.cellsOf t = 1 := by
          rintro t (rfl | rfl | rfl) <;> kernel_rfl
        rw [one _ (.inl rfl)] at g0 g3
        rw [one _ (.inr (.inl rfl))] at g1
        rw [one _ (.inr (.inr rfl))] at g2
        obtain ⟨y0, hy0⟩ : ∃ y, xs[0]? = some y := ⟨xs[0]'(by simp_all), by simp_all⟩
        obtain ⟨y1, hy1⟩ : ∃ y, xs[1]? = some y := ⟨xs[1]'(by simp_all), by simp_all⟩
        obtain ⟨y2, hy2⟩ : ∃ y, xs[2]? = some y := ⟨xs[2]'(by simp_all), by simp_all⟩
        obtain ⟨y3, hy3⟩ : ∃ y, xs[3]? = some y := ⟨xs[3]'(by simp_all), by simp_all⟩
        rw [hy0] at g0
        rw [hy1] at g1
        rw [hy2] at g2
        rw [hy3] at g3
        obtain ⟨n0, e0, _⟩ := DataW.trod_int Try.underlying3 g0
        obtain ⟨s1, e1, _⟩ := DataW.trod_string Try.underlying9 g1
        obtain ⟨n2, e2, _⟩ := DataW.trod_int Try.underlying21 g2
        obtain ⟨n3, e3, _⟩ := DataW.trod_int Try.underlying3 g3
        simp at e0 e1 e2 e3
        subst e0 e1 e2 e3
        exact ⟨⟨n0, s1.data.toList, n2, n3⟩, hat 0 (by omega), hat 1 (by omega), hat 2 (by omega), hat 3 (by omega)⟩
    haveI : Inhabited Lx.Tok := ⟨⟨0, [], 0, 0⟩⟩
    obtain ⟨f, hf⟩ := choose_lt each
    refine ⟨some a, c, (List.range n).map f, by simp, fun k hk => ?_, by simp; omega⟩
    have hk' : k < n := by simpa using hk
    obtain ⟨a0, a1, a2, a3⟩ := hf k hk'
    obtain ⟨b, off, sp⟩ := a
    have hsp : sp = none := by
      have h := World.cell?_spot (hf 0 (by omega)).1
      simpa [Addr.add] using h
    subst hsp
    rw [add_plain, add_plain] at a0 a1 a2 a3
    refine ⟨b, off, rfl, ?_, ?_, ?_, ?_⟩
    · simpa using a0
    · simpa using a1
    · simpa using a2
    · simpa using a3
end Go.Proofs.Ytjgklpjmbogimaa
