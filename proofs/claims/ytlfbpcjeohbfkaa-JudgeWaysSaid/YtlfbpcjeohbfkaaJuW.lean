/-
  Slices of truths that came in; what is told of a code that is refused; instructions that touch what there is.
-/
import Derived.Test.YtlfbpcjeohbfkaaJuT
import Derived.Deep.Grids
namespace Go.Proofs.Ytlfbpcjeohbfkaa
open Go.RowKit Go.ChangeShapes Go.WideShapes Go.Deep Mem

def BoolsAt (w : World) (A : Option Addr) (n : Nat) (B : Nat → Bool) : Prop := ∀ k, k < n → ∃ b off, A = some ⟨b, off, none⟩ ∧ w.cell? ⟨b, off + k, none⟩ = some (.bool (B k))
theorem BoolsAt.below {w w' : World} {A : Option Addr} {n : Nat} {B : Nat → Bool} {K : Nat} (h : BoolsAt w A n B) (hb : Below K w w') (hB : w.heap.size ≤ K) : BoolsAt w' A n B := by
  intro k hk
  obtain ⟨b, off, rfl, h0⟩ := h k hk
  have hlt := World.block_lt_of_cell? _ _ h0
  exact ⟨b, off, rfl, (hb.cell (p := ⟨b, off + k, none⟩) (Nat.lt_of_lt_of_le hlt hB)).trans h0⟩
theorem open_which {H : Type} {enc : TypeId × Value → H} {w : World} {b0 : Nat} {held : Bool} {r : Reach} {v : Value} {d : DataW H} {p : List MemPlace}
    (hv : Value.okWide Try.prog w r b0 38 v) (h : DataW.Trod enc Try.prog w 0 (fun _ => true) held 38 v d p) (_hsz : ∀ n ∈ d.weights Try.prog 38, n ≤ reachBytes) :
    ∃ (A : Option Addr) (n c : Nat) (B : Nat → Bool), v = .slice A n c ∧ BoolsAt w A n B := by
  obtain ⟨A, n, c, rfl⟩ := okWide_slice Try.underlying38 hv
  obtain ⟨fuel, hf⟩ := h
  rcases open_bools Try.underlying38 Try.underlying4 (by kernel_rfl) hf with ⟨hcs, _⟩ | ⟨a, len, cap, B, hcs, _, hl, _, _, hc⟩
  · simp [Value.cells] at hcs
    obtain ⟨rfl, rfl, rfl⟩ := hcs
    exact ⟨none, 0, 0, fun _ => false, rfl, fun k hk => absurd hk (Nat.not_lt_zero _)⟩
  · simp [Value.cells] at hcs
    obtain ⟨rfl, rfl, rfl⟩ := hcs
    refine ⟨some a, n, c, B, rfl, fun k hk => ?_⟩
    have c0 := hc k (by omega)
    obtain ⟨b, off, sp⟩ := a
    have hsp : sp = none := by
      have h0 : ((⟨b, off, sp⟩ : Addr).add 0).spot = none := World.cell?_spot (hc 0 (by omega))
      simpa [Addr.add] using h0
    subst hsp
    rw [Mem.add_plain] at c0
    exact ⟨b, off, rfl, c0⟩
theorem run_zero {f : Ju.Fr} {n : Nat} : ∀ (l : List Ia.Ins) (k : Nat) (s : Ju.St) (top : Int), (Ju.run f n l k s top).er ≠ 0 → (Ju.run f n l k s top).dp = 0 ∧ (Ju.run f n l k s top).fu = 0
  | [], k, s, top, he => by
    unfold Ju.run at he ⊢
    cases hv : s k with
    | none => rw [hv] at he; exact absurd rfl he
    | some v =>
      obtain ⟨d, fu⟩ := v
      rw [hv] at he
      dsimp only at he ⊢
      by_cases hd : d = 0
      · rw [if_pos hd] at he; exact absurd rfl he
      · rw [if_neg hd]; exact ⟨rfl, rfl⟩
  | i :: l, k, s, top, he => by
    rw [Ju.run] at he ⊢
    by_cases hs : (Ju.step f n i k s).1 = 0
    · rw [if_neg (fun e => e hs)] at he ⊢
      exact run_zero l _ _ _ he
    · rw [if_pos hs]; exact ⟨rfl, rfl⟩
theorem check_zero {f : Ju.Fr} {l : List Ia.Ins} (h : (Ju.check f l).er ≠ 0) : (Ju.check f l).dp = 0 ∧ (Ju.check f l).fu = 0 := by
  unfold Ju.check at h ⊢
  split
  · exact ⟨rfl, rfl⟩
  · rename_i h1
    rw [if_neg h1] at h
    split
    · exact ⟨rfl, rfl⟩
    · rename_i h2
      rw [if_neg h2] at h
      exact run_zero l _ _ _ h
theorem room_op {op : Int} {f : Ju.Fr} (hr : 0 ≤ Ju.room op f) : op = 2 ∨ op = 3 ∨ op = 4 ∨ op = 5 ∨ op = 6 ∨ op = 7 := by
  unfold Ju.room at hr
  by_cases a : op = 2 ∨ op = 3
  · omega
  · rw [if_neg a] at hr
    by_cases b : op = 4
    · omega
    · rw [if_neg b] at hr
      by_cases c : op = 5
      · omega
      · rw [if_neg c] at hr
        by_cases d : op = 6
        · omega
        · rw [if_neg d] at hr
          by_cases e : op = 7
          · omega
          · rw [if_neg e] at hr; omega
theorem right_room {i : Ia.Ins} {f : Ju.Fr} (h : Ia.right i = 0) (hr : 0 ≤ Ju.room i.op f) : 0 ≤ i.n := by
  have ho := room_op hr
  have hf : Ia.form i.op = 1 := by
    unfold Ia.form
    rw [if_neg (by omega), if_neg (by omega), if_pos (by omega)]
  unfold Ia.right at h
  rw [hf, if_neg (by decide), if_neg (by decide), if_neg (by omega)] at h
  by_cases hn : i.n < 0 ∨ Ia.most i.op < i.n
  · rw [if_pos hn] at h; omega
  · omega
end Go.Proofs.Ytlfbpcjeohbfkaa
