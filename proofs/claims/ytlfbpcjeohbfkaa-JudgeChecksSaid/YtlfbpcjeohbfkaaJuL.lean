/-
  Laws on what is told of a code, in plain Lean: wider frames, two codes one behind the other.
-/
import Derived.Test.YtlfbpcjeohbfkaaJuO
namespace Go.Proofs.Ytlfbpcjeohbfkaa
open Go.RowKit Mem

abbrev InsArg (w : World) (A : Option Addr) (c : Nat) (l : List Ia.Ins) : Prop := ISrc w A c l ∧ (∀ k (h : k < l.length), InsOk (l[k]'h)) ∧ l.length ≤ 8796093022202
def Wider (f g : Ju.Fr) : Prop := f.sl ≤ g.sl ∧ f.ol ≤ g.ol ∧ f.nw ≤ g.nw ∧ f.is ≤ g.is ∧ f.os ≤ g.os
theorem okFr_ge {f : Ju.Fr} (h : Ju.okFr f = true) : 0 ≤ f.sl ∧ 0 ≤ f.ol ∧ 0 ≤ f.nw ∧ 0 ≤ f.is ∧ 0 ≤ f.os := by
  unfold Ju.okFr at h
  simp only [Bool.and_eq_true, decide_eq_true_eq] at h
  omega
theorem room_wider {f g : Ju.Fr} (h : Ju.okFr f = true) (hw : Wider f g) (op n : Int) (hr : ¬ (0 ≤ Ju.room op f ∧ Ju.room op f ≤ n)) : ¬ (0 ≤ Ju.room op g ∧ Ju.room op g ≤ n) := by
  have h0 := okFr_ge h
  obtain ⟨w1, w2, w3, w4, w5⟩ := hw
  unfold Ju.room at *
  repeat' split at hr
  all_goals (repeat' split)
  all_goals (try omega)
theorem step_wider {f g : Ju.Fr} (h : Ju.okFr f = true) (hw : Wider f g) {n k : Nat} {i : Ia.Ins} {s : Ju.St} (h0 : (Ju.step f n i k s).1 = 0) : Ju.step g n i k s = Ju.step f n i k s := by
  by_cases hr : Ia.right i = 0
  · by_cases hm : 0 ≤ Ju.room i.op f ∧ Ju.room i.op f ≤ i.n
    · rw [Ju.step_room hr hm] at h0; simp at h0
    · have hm2 := room_wider h hw _ _ hm
      unfold Ju.step
      simp only [hr, ne_eq, not_true_eq_false, if_false, if_neg hm, if_neg hm2]
  · rw [Ju.step_right hr, Ju.step_right hr]
theorem run_wider {f g : Ju.Fr} (h : Ju.okFr f = true) (hw : Wider f g) {n : Nat} : ∀ (l : List Ia.Ins) (k : Nat) (s : Ju.St) (top : Int), (Ju.run f n l k s top).er = 0 → Ju.run g n l k s top = Ju.run f n l k s top
  | [], _, _, _, _ => rfl
  | i :: r, k, s, top, h0 => by
    unfold Ju.run at h0 ⊢
    by_cases hs : (Ju.step f n i k s).1 = 0
    · have hst := step_wider h hw hs
      rw [if_neg (fun e => e hs)] at h0
      rw [hst, if_neg (fun e => e hs), if_neg (fun e => e hs)]
      exact run_wider h hw r _ _ _ h0
    · rw [if_pos hs] at h0
      exact absurd h0 hs
theorem check_ok {f : Ju.Fr} {l : List Ia.Ins} (h : (Ju.check f l).er = 0) : Ju.okFr f = true ∧ ¬ 600 < l.length := by
  unfold Ju.check at h
  by_cases h1 : Ju.okFr f = true
  · refine ⟨h1, fun h2 => ?_⟩
    rw [if_neg (by rw [h1]; decide), if_pos h2] at h
    simp at h
  · rw [if_pos (by simpa using h1)] at h
    simp at h
theorem check_wider {f g : Ju.Fr} {l : List Ia.Ins} (h : (Ju.check f l).er = 0) (hw : Wider f g) (hg : Ju.okFr g = true) : Ju.check g l = Ju.check f l := by
  obtain ⟨h1, h2⟩ := check_ok h
  rw [check_run h1 h2] at h ⊢
  rw [check_run hg h2, run_wider h1 hw l 0 _ _ h]
theorem check_bad {g : Ju.Fr} (l : List Ia.Ins) (hg : Ju.okFr g = false) : (Ju.check g l).er = 1 := by
  unfold Ju.check; rw [if_pos hg]
end Go.Proofs.Ytlfbpcjeohbfkaa
