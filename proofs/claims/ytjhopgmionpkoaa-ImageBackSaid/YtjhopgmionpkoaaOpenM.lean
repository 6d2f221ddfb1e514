/-
  An image that came in by value, opened.
-/
import Derived.Test.YtjhopgmionpkoaaIm1
import Derived.Test.YtjhopgmionpkoaaIsa2
import Derived.Test.YtjhopgmionpkoaaJu2
import Derived.Test.YtjhopgmionpkoaaBytes
namespace Go.Proofs.Ytjhopgmionpkoaa
set_option maxRecDepth 20000
open Go.RowKit Go.ChangeShapes Go.WideShapes Go.Deep Mem

theorem array13 {α : Type} {cs : Array α} (h : cs.size = 13) : ∃ c0 c1 c2 c3 c4 c5 c6 c7 c8 c9 ca cb cc, cs = #[c0, c1, c2, c3, c4, c5, c6, c7, c8, c9, ca, cb, cc] := by
  obtain ⟨l⟩ := cs
  match l, h with
  | [c0, c1, c2, c3, c4, c5, c6, c7, c8, c9, ca, cb, cc], _ => exact ⟨c0, c1, c2, c3, c4, c5, c6, c7, c8, c9, ca, cb, cc, rfl⟩
theorem list9 {α : Type} {cs : List α} (h : cs.length = 9) : ∃ c0 c1 c2 c3 c4 c5 c6 c7 c8, cs = [c0, c1, c2, c3, c4, c5, c6, c7, c8] := by
  match cs, h with
  | [c0, c1, c2, c3, c4, c5, c6, c7, c8], _ => exact ⟨c0, c1, c2, c3, c4, c5, c6, c7, c8, rfl⟩
theorem trod_inss {H : Type} {enc : TypeId × Value → H} {w : World} {spare : Nat → Bool} {held : Bool} {fuel : Nat} {c0 : Value} {x : DataW H × List MemPlace}
    (hf : DataW.trod enc Try.prog w 0 spare held fuel 26 [c0] = some x) : ∃ (A : Option Addr) (c : Nat) (l : List Ia.Ins), c0 = .slice A l.length c ∧ ISrc w A c l ∧ ∀ i ∈ l, InsOk i := by
  have hC : Try.prog.cellsOf 67 = 2 := by kernel_rfl
  rcases open_slice Try.underlying26 hf with ⟨hcs, _⟩ | ⟨a, n, cap, m, k, D, Pl, hcs, hb, hl, hm, hmm, hx, hi⟩
  · simp at hcs
    subst hcs
    exact ⟨none, 0, [], rfl, ⟨by simp [insCells], fun _ => ⟨rfl, rfl⟩, fun ad h => (by cases h)⟩, fun i hi => (by cases hi)⟩
  · simp at hcs
    subst hcs
    have hlm : n ≤ m := by rw [hmm]; split <;> omega
    have each : ∀ i, i < n → ∃ t : Ia.Ins, w.cell? ((a.add (i * 2)).add 0) = some (.int .i64 t.op) ∧ w.cell? ((a.add (i * 2)).add 1) = some (.int .i32 t.n) ∧ InsOk t := by
      intro i him
      obtain ⟨cs', hc, ht⟩ := hi i (by omega)
      rw [hC] at hc
      obtain ⟨_, hcl, hat⟩ := World.cells?_some hc
      match cs', hcl with
      | [c0, c1], _ =>
        obtain ⟨xs, n', _, _, _, _, hg⟩ := DataW.trod_struct Try.underlying67 ht
        have g0 : DataW.trod enc Try.prog w 0 spare held n' 3 (([c0, c1].drop 0).take (Try.prog.cellsOf 3)) = xs[0]? := hg 0 _ rfl
        have g1 : DataW.trod enc Try.prog w 0 spare held n' 21 (([c0, c1].drop 1).take (Try.prog.cellsOf 21)) = xs[1]? := hg 1 _ rfl
        have one : ∀ t, t = 3 ∨ t = 21 → Try.prog.cellsOf t = 1 := by
          rintro t (rfl | rfl) <;> kernel_rfl
        rw [one _ (.inl rfl)] at g0
        rw [one _ (.inr rfl)] at g1
        obtain ⟨y0, hy0⟩ : ∃ y, xs[0]? = some y := ⟨xs[0]'(by simp_all), by simp_all⟩
        obtain ⟨y1, hy1⟩ : ∃ y, xs[1]? = some y := ⟨xs[1]'(by simp_all), by simp_all⟩
        rw [hy0] at g0
        rw [hy1] at g1
        obtain ⟨n0, e0, _, w0⟩ := DataW.trod_int Try.underlying3 g0
        obtain ⟨n1, e1, _, w1⟩ := DataW.trod_int Try.underlying21 g1
        simp at e0 e1
        subst e0 e1
        exact ⟨⟨n0, n1⟩, hat 0 (by omega), hat 1 (by omega), wf64 w0, wf32 w1⟩
    haveI : Inhabited Ia.Ins := ⟨Ia.nil⟩
    obtain ⟨f, hf⟩ := choose_lt each
    refine ⟨some a, cap, (List.range n).map f, by simp, ⟨?_, fun h => (by cases h), ?_⟩, fun i hi => ?_⟩
    · rw [insCells_length]
    · intro ad hx j u hu
      injection hx with hx
      subst hx
      obtain ⟨k, hk, h1⟩ := insCells_get _ j u hu
      have hk' : k < n := by simpa using hk
      obtain ⟨a0, a1, _⟩ := hf k hk'
      rw [Go.Deep.add_add] at a0 a1
      rcases h1 with ⟨rfl, rfl⟩ | ⟨rfl, rfl⟩
      · simpa using a0
      · simpa using a1
    · obtain ⟨k, hk, rfl⟩ := List.mem_map.1 hi
      exact (hf k (by simpa using hk)).2.2
theorem trod_i32s {H : Type} {enc : TypeId × Value → H} {w : World} {spare : Nat → Bool} {held : Bool} {fuel : Nat} {c0 : Value} {x : DataW H × List MemPlace}
    (hf : DataW.trod enc Try.prog w 0 spare held fuel 25 [c0] = some x) : ∃ (A : Option Addr) (c : Nat) (l : List Int), c0 = .slice A l.length c ∧ Src w A l.length c (l.map fun n => .int .i32 n) 1 ∧ ∀ n ∈ l, -2147483648 ≤ n ∧ n ≤ 2147483647 := by
  rcases open_ints Try.underlying25 Try.underlying21 (by kernel_rfl) hf with ⟨hcs, _⟩ | ⟨a, n, cap, zs, hcs, _, hl, hm, hz, hd, hcell, hwz⟩
  · simp at hcs
    subst hcs
    exact ⟨none, 0, [], rfl, ⟨rfl, fun _ => ⟨rfl, rfl⟩, fun ad h => (by cases h)⟩, fun i hi => (by cases hi)⟩
  · simp at hcs
    subst hcs
    have hzl : n ≤ zs.length := by rw [hz]; split <;> omega
    have ht : (zs.take n).length = n := by rw [List.length_take]; omega
    refine ⟨some a, cap, zs.take n, by rw [ht], ⟨by simp, fun h => (by cases h), ?_⟩, fun i hi => wf32 (hwz i (List.mem_of_mem_take hi))⟩
    intro ad hx j u hu
    injection hx with hx
    subst hx
    have hj : j < n := by
      rcases Nat.lt_or_ge j n with h1 | h1
      · exact h1
      · rw [List.getElem?_eq_none (by simp; omega)] at hu; cases hu
    have hjz : j < zs.length := by omega
    rw [hcell j hjz, ← hu]
    simp [List.getElem?_map, hj, List.getElem?_eq_getElem hjz, List.getD_eq_getElem?_getD]
theorem wfu32 {a : Int} (h : (Lit.int .u32 a).wf = true) : 0 ≤ a ∧ a < 4294967296 := by
  have h2 := (Lit.wf_int_iff _ _).1 h
  have e1 : IntKind.u32.min = 0 := by decide
  have e2 : IntKind.u32.max = 4294967295 := by decide
  rw [e1, e2] at h2
  omega
theorem open_image {H : Type} {enc : TypeId × Value → H} {w : World} {b0 : Nat} {spare : Nat → Bool} {held : Bool} {r : Reach} {v : Value} {d : DataW H} {p : List MemPlace}
    (hv : Value.okWide Try.prog w r b0 28 v) (h : DataW.Trod enc Try.prog w 0 spare held 28 v d p) (_hsz : ∀ n ∈ d.weights Try.prog 28, n ≤ reachBytes) :
    ∃ (m : Im) (A1 A2 A3 : Option Addr) (c1 c2 c3 : Nat), v = imAgg m A1 A2 A3 c1 c2 c3 ∧ (ImAt w m A1 A2 A3 c1 c2 c3 ∧ ImOk m) := by
  obtain ⟨cs, rfl, hsz⟩ := okWide_struct Try.underlying28 hv
  have hC : Try.prog.cellsOf 28 = 13 := by kernel_rfl
  have hI : Try.prog.cellsOf 3 = 1 := by kernel_rfl
  have hU : Try.prog.cellsOf 22 = 1 := by kernel_rfl
  have hF : Try.prog.cellsOf 24 = 5 := by kernel_rfl
  have h3 : Try.prog.cellsOf 25 = 1 := by kernel_rfl
  have hN : Try.prog.cellsOf 26 = 1 := by kernel_rfl
  obtain ⟨c0, c1, c2, c3, c4, c5, c6, c7, c8, c9, ca, cb, cc, rfl⟩ := array13 (hsz.trans hC)
  obtain ⟨fuel, hf⟩ := h
  obtain ⟨xs, n, _, _, _, hlen, hg⟩ := DataW.trod_struct Try.underlying28 hf
  obtain ⟨y0, y1, y2, y3, y4, y5, y6, y7, y8, rfl⟩ := list9 hlen
  have g0 : DataW.trod enc Try.prog w 0 spare held n 22 (([c0, c1, c2, c3, c4, c5, c6, c7, c8, c9, ca, cb, cc].drop 0).take (Try.prog.cellsOf 22)) = some y0 := hg 0 _ rfl
  rw [hU] at g0
  have g1 : DataW.trod enc Try.prog w 0 spare held n 22 (([c0, c1, c2, c3, c4, c5, c6, c7, c8, c9, ca, cb, cc].drop 1).take (Try.prog.cellsOf 22)) = some y1 := hg 1 _ rfl
  rw [hU] at g1
  have g2 : DataW.trod enc Try.prog w 0 spare held n 3 (([c0, c1, c2, c3, c4, c5, c6, c7, c8, c9, ca, cb, cc].drop 2).take (Try.prog.cellsOf 3)) = some y2 := hg 2 _ rfl
  rw [hI] at g2
  have g3 : DataW.trod enc Try.prog w 0 spare held n 24 (([c0, c1, c2, c3, c4, c5, c6, c7, c8, c9, ca, cb, cc].drop 3).take (Try.prog.cellsOf 24)) = some y3 := hg 3 _ rfl
  rw [hF] at g3
  have g4 : DataW.trod enc Try.prog w 0 spare held n 25 (([c0, c1, c2, c3, c4, c5, c6, c7, c8, c9, ca, cb, cc].drop 8).take (Try.prog.cellsOf 25)) = some y4 := hg 4 _ rfl
  rw [h3] at g4
  have g5 : DataW.trod enc Try.prog w 0 spare held n 26 (([c0, c1, c2, c3, c4, c5, c6, c7, c8, c9, ca, cb, cc].drop 9).take (Try.prog.cellsOf 26)) = some y5 := hg 5 _ rfl
  rw [hN] at g5
  have g6 : DataW.trod enc Try.prog w 0 spare held n 26 (([c0, c1, c2, c3, c4, c5, c6, c7, c8, c9, ca, cb, cc].drop 10).take (Try.prog.cellsOf 26)) = some y6 := hg 6 _ rfl
  rw [hN] at g6
  have g7 : DataW.trod enc Try.prog w 0 spare held n 3 (([c0, c1, c2, c3, c4, c5, c6, c7, c8, c9, ca, cb, cc].drop 11).take (Try.prog.cellsOf 3)) = some y7 := hg 7 _ rfl
  rw [hI] at g7
  have g8 : DataW.trod enc Try.prog w 0 spare held n 3 (([c0, c1, c2, c3, c4, c5, c6, c7, c8, c9, ca, cb, cc].drop 12).take (Try.prog.cellsOf 3)) = some y8 := hg 8 _ rfl
  rw [hI] at g8
  obtain ⟨n0, e0, _, w0⟩ := DataW.trod_int Try.underlying22 g0
  obtain ⟨n1, e1, _, w1⟩ := DataW.trod_int Try.underlying22 g1
  obtain ⟨n2, e2, _, w2⟩ := DataW.trod_int Try.underlying3 g2
  obtain ⟨n7, e7, _, w7⟩ := DataW.trod_int Try.underlying3 g7
  obtain ⟨n8, e8, _, w8⟩ := DataW.trod_int Try.underlying3 g8
  simp at e0 e1 e2 e7 e8
  subst e0 e1 e2 e7 e8
  obtain ⟨A1, k1, l1, e4, s4, r4⟩ := trod_i32s (c0 := c8) g4
  obtain ⟨A2, k2, l2, e5, s5, r5⟩ := trod_inss (c0 := c9) g5
  obtain ⟨A3, k3, l3, e6, s6, r6⟩ := trod_inss (c0 := ca) g6
  subst e4 e5 e6
  obtain ⟨zs, n', _, _, _, hlen3, hg3⟩ := DataW.trod_struct Try.underlying24 g3
  obtain ⟨z0, z1, z2, z3, z4, rfl⟩ := list5 hlen3
  have q0 : DataW.trod enc Try.prog w 0 spare held n' 3 (([c3, c4, c5, c6, c7].drop 0).take (Try.prog.cellsOf 3)) = some z0 := hg3 0 _ rfl
  rw [hI] at q0
  have q1 : DataW.trod enc Try.prog w 0 spare held n' 3 (([c3, c4, c5, c6, c7].drop 1).take (Try.prog.cellsOf 3)) = some z1 := hg3 1 _ rfl
  rw [hI] at q1
  have q2 : DataW.trod enc Try.prog w 0 spare held n' 3 (([c3, c4, c5, c6, c7].drop 2).take (Try.prog.cellsOf 3)) = some z2 := hg3 2 _ rfl
  rw [hI] at q2
  have q3 : DataW.trod enc Try.prog w 0 spare held n' 3 (([c3, c4, c5, c6, c7].drop 3).take (Try.prog.cellsOf 3)) = some z3 := hg3 3 _ rfl
  rw [hI] at q3
  have q4 : DataW.trod enc Try.prog w 0 spare held n' 3 (([c3, c4, c5, c6, c7].drop 4).take (Try.prog.cellsOf 3)) = some z4 := hg3 4 _ rfl
  rw [hI] at q4
  obtain ⟨m0, f0, _, v0⟩ := DataW.trod_int Try.underlying3 q0
  obtain ⟨m1, f1, _, v1⟩ := DataW.trod_int Try.underlying3 q1
  obtain ⟨m2, f2, _, v2⟩ := DataW.trod_int Try.underlying3 q2
  obtain ⟨m3, f3, _, v3⟩ := DataW.trod_int Try.underlying3 q3
  obtain ⟨m4, f4, _, v4⟩ := DataW.trod_int Try.underlying3 q4
  simp at f0 f1 f2 f3 f4
  subst f0 f1 f2 f3 f4
  exact ⟨⟨n0, n1, n2, ⟨m0, m1, m2, m3, m4⟩, l1, l2, l3, n7, n8⟩, A1, A2, A3, k1, k2, k3, rfl, ⟨s4, s5, s6⟩, ⟨wfu32 w0, wfu32 w1, r4, r5, r6⟩⟩
end Go.Proofs.Ytjhopgmionpkoaa
