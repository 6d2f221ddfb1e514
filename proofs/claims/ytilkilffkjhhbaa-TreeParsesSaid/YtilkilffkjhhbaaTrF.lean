/-
  The marks of operations: markOf, opOf and marks; Ops and level of the reference.
-/
import Derived.Test.YtilkilffkjhhbaaTrMem
import Derived.Test.YtilkilffkjhhbaaTrPl
namespace Go.Proofs.Ytilkilffkjhhbaa
set_option maxRecDepth 20000
set_option linter.unusedVariables false
open Go.RowKit Tr
attribute [local go_sem] ba_get

theorem op_cases {o : Int} (h1 : 1 ≤ o) (h2 : o ≤ 16) : o = 1 ∨ o = 2 ∨ o = 3 ∨ o = 4 ∨ o = 5 ∨ o = 6 ∨ o = 7 ∨ o = 8 ∨ o = 9 ∨ o = 10 ∨ o = 11 ∨ o = 12 ∨ o = 13 ∨ o = 14 ∨ o = 15 ∨ o = 16 := by omega
set_option maxHeartbeats 4000000 in
theorem markof (o : Int) (h1 : 1 ≤ o) (h2 : o ≤ 16) (w : World) : Calls Try.prog 80 #[.int .i32 o] w fun e w' => e = .returned (.string ⟨(opm o).toArray⟩) ∧ w = w' := by
  rcases op_cases h1 h2 with rfl | rfl | rfl | rfl | rfl | rfl | rfl | rfl | rfl | rfl | rfl | rfl | rfl | rfl | rfl | rfl
  · have hm : opm 1 = [43] := rfl
    rw [hm]
    clear hm h1 h2
    go_enter Try.func80, Try.ntmps80
    go_wp2
    go_ret
    exact ⟨rfl, rfl⟩
  · have hm : opm 2 = [45] := rfl
    rw [hm]
    clear hm h1 h2
    go_enter Try.func80, Try.ntmps80
    go_wp2
    go_ret
    exact ⟨rfl, rfl⟩
  · have hm : opm 3 = [42] := rfl
    rw [hm]
    clear hm h1 h2
    go_enter Try.func80, Try.ntmps80
    go_wp2
    go_ret
    exact ⟨rfl, rfl⟩
  · have hm : opm 4 = [47] := rfl
    rw [hm]
    clear hm h1 h2
    go_enter Try.func80, Try.ntmps80
    go_wp2
    go_ret
    exact ⟨rfl, rfl⟩
  · have hm : opm 5 = [37] := rfl
    rw [hm]
    clear hm h1 h2
    go_enter Try.func80, Try.ntmps80
    go_wp2
    go_ret
    exact ⟨rfl, rfl⟩
  · have hm : opm 6 = [60, 60] := rfl
    rw [hm]
    clear hm h1 h2
    go_enter Try.func80, Try.ntmps80
    go_wp2
    go_ret
    exact ⟨rfl, rfl⟩
  · have hm : opm 7 = [62, 62] := rfl
    rw [hm]
    clear hm h1 h2
    go_enter Try.func80, Try.ntmps80
    go_wp2
    go_ret
    exact ⟨rfl, rfl⟩
  · have hm : opm 8 = [38] := rfl
    rw [hm]
    clear hm h1 h2
    go_enter Try.func80, Try.ntmps80
    go_wp2
    go_ret
    exact ⟨rfl, rfl⟩
  · have hm : opm 9 = [124] := rfl
    rw [hm]
    clear hm h1 h2
    go_enter Try.func80, Try.ntmps80
    go_wp2
    go_ret
    exact ⟨rfl, rfl⟩
  · have hm : opm 10 = [94] := rfl
    rw [hm]
    clear hm h1 h2
    go_enter Try.func80, Try.ntmps80
    go_wp2
    go_ret
    exact ⟨rfl, rfl⟩
  · have hm : opm 11 = [61] := rfl
    rw [hm]
    clear hm h1 h2
    go_enter Try.func80, Try.ntmps80
    go_wp2
    go_ret
    exact ⟨rfl, rfl⟩
  · have hm : opm 12 = [60, 62] := rfl
    rw [hm]
    clear hm h1 h2
    go_enter Try.func80, Try.ntmps80
    go_wp2
    go_ret
    exact ⟨rfl, rfl⟩
  · have hm : opm 13 = [60] := rfl
    rw [hm]
    clear hm h1 h2
    go_enter Try.func80, Try.ntmps80
    go_wp2
    go_ret
    exact ⟨rfl, rfl⟩
  · have hm : opm 14 = [60, 61] := rfl
    rw [hm]
    clear hm h1 h2
    go_enter Try.func80, Try.ntmps80
    go_wp2
    go_ret
    exact ⟨rfl, rfl⟩
  · have hm : opm 15 = [62] := rfl
    rw [hm]
    clear hm h1 h2
    go_enter Try.func80, Try.ntmps80
    go_wp2
    go_ret
    exact ⟨rfl, rfl⟩
  · have hm : opm 16 = [62, 61] := rfl
    rw [hm]
    clear hm h1 h2
    go_enter Try.func80, Try.ntmps80
    go_wp2
    go_ret
    exact ⟨rfl, rfl⟩
theorem mark_inj {o : Int} (h1 : 1 ≤ o) (h2 : o ≤ 16) : ∀ p : Int, 1 ≤ p → p ≤ 16 → (opm p == opm o) = (p == o) := by
  intro p h3 h4
  have key : ∀ i : Fin 16, ∀ j : Fin 16, (opm ((i.val : Int) + 1) == opm ((j.val : Int) + 1)) = (((i.val : Int) + 1) == ((j.val : Int) + 1)) := by decide +kernel
  have := key ⟨(p - 1).toNat, by omega⟩ ⟨(o - 1).toNat, by omega⟩
  simp only at this
  rw [show (((p - 1).toNat : Nat) : Int) + 1 = p by omega, show (((o - 1).toNat : Nat) : Int) + 1 = o by omega] at this
  exact this
set_option maxHeartbeats 4000000 in
theorem opof (o : Int) (h1 : 1 ≤ o) (h2 : o ≤ 16) (w : World) : Calls Try.prog 114 #[.string ⟨(opm o).toArray⟩] w fun e w' => e = .returned (.int .i32 o) ∧ w = w' := by
  have HI := Lib.hid (mark_inj h1 h2)
  obtain ⟨m, hm⟩ : ∃ m, m = opm o := ⟨_, rfl⟩
  rw [← hm] at HI ⊢
  clear hm
  go_enter Try.func114, Try.ntmps114
  go_wp2_with fail
  go_loopw [3] (fun i wr => ∃ k : Int, i = .int .i32 k ∧ 1 ≤ k ∧ k ≤ o ∧ w = wr) (fun i _ => (17 - intOf i).toNat)
  case atStart => exact ⟨1, rfl, by omega, by omega, rfl⟩
  case round =>
    obtain ⟨k, rfl, hk1, hk2, rfl⟩ := hrel
    have hi := HI.out k hk1 (by omega)
    rcases hq : (k == o) with _ | _
    · rw [hq] at hi
      have hne : k ≠ o := by simpa using hq
      have hk3 : k < o := by omega
      generalize hmk : opm k = mk at *
      have HM : Hid (∀ W, Calls Try.prog 80 #[.int .i32 k] W fun e w' => e = .returned (.string ⟨mk.toArray⟩) ∧ W = w') := fun W => by rw [← hmk]; exact markof k hk1 (by omega) W
      clear hq hne hmk
      go_wp2_with fail
      refine (HM.out _).mono ?_
      rintro e w' ⟨rfl, rfl⟩
      go_wp2_with fail
      go_roundw
      case rel => exact ⟨k + 1, rfl, by omega, by omega, by first | trivial | rfl⟩
      case measure => simp [intOf]; omega
    · rw [hq] at hi
      obtain rfl : k = o := by simpa using hq
      generalize hmk : opm k = mk at *
      have HM : Hid (∀ W, Calls Try.prog 80 #[.int .i32 k] W fun e w' => e = .returned (.string ⟨mk.toArray⟩) ∧ W = w') := fun W => by rw [← hmk]; exact markof k hk1 (by omega) W
      clear hq hmk
      go_wp2_with fail
      refine (HM.out _).mono ?_
      rintro e w' ⟨rfl, rfl⟩
      go_wp2_with fail
      go_ret
      exact ⟨rfl, rfl⟩
def StrsAt (w : World) (g : Nat) (l : List Lx.Bs) : Prop := ∀ k (h : k < l.length), w.cell? ⟨g, k, none⟩ = some (.string ⟨(l[k]'h).toArray⟩)
theorem strs_new (W : World) (t : TypeId) (l : List Lx.Bs) (cs : Array Value) (h : cs = (l.map fun x => Value.string ⟨x.toArray⟩).toArray) : StrsAt (W.alloc (.cells cs t)) W.heap.size l := by
  intro k hk
  rw [cell_of_row _ _ _ _ _ _ (heap_alloc_new W _), h, List.getElem?_toArray, List.getElem?_map, List.getElem?_eq_getElem hk]
  rfl
def MarksPost (n : Nat) (w : World) (e : Ending) (w' : World) : Prop := ∃ c, e = .returned (.slice (some ⟨w.heap.size, 0, none⟩) (ops n).length c) ∧ StrsAt w' w.heap.size ((ops n).map opm) ∧ Below w.heap.size w w' ∧ w.heap.size < w'.heap.size
set_option maxHeartbeats 4000000 in
theorem marks_any (n : Nat) (hn : n ≤ 5) (w : World) : Calls Try.prog 113 #[.int .i64 (n : Nat)] w (MarksPost n w) := by
  rcases (show n = 0 ∨ n = 1 ∨ n = 2 ∨ n = 3 ∨ n = 4 ∨ n = 5 by omega) with rfl | rfl | rfl | rfl | rfl | rfl
  all_goals
    go_enter Try.func113, Try.ntmps113
    go_wp2
    go_ret
    exact ⟨_, rfl, strs_new _ _ _ _ rfl, (Below.refl _ _).alloc (Nat.le_refl _) _, by simp⟩
set_option maxHeartbeats 4000000 in
theorem refops (o : Int) (h1 : 1 ≤ o) (h2 : o ≤ 16) (w : World) : Calls Try.prog 25 #[.int .i64 o] w fun e w' => e = .returned (.string ⟨(opm o).toArray⟩) ∧ Below w.heap.size w w' := by
  rcases op_cases h1 h2 with rfl | rfl | rfl | rfl | rfl | rfl | rfl | rfl | rfl | rfl | rfl | rfl | rfl | rfl | rfl | rfl
  · have hm : opm 1 = [43] := rfl
    rw [hm]
    clear hm h1 h2
    go_enter Try.func25, Try.ntmps25
    go_wp2
    go_ret
    exact ⟨rfl, (Below.refl _ _).alloc (Nat.le_refl _) _⟩
  · have hm : opm 2 = [45] := rfl
    rw [hm]
    clear hm h1 h2
    go_enter Try.func25, Try.ntmps25
    go_wp2
    go_ret
    exact ⟨rfl, (Below.refl _ _).alloc (Nat.le_refl _) _⟩
  · have hm : opm 3 = [42] := rfl
    rw [hm]
    clear hm h1 h2
    go_enter Try.func25, Try.ntmps25
    go_wp2
    go_ret
    exact ⟨rfl, (Below.refl _ _).alloc (Nat.le_refl _) _⟩
  · have hm : opm 4 = [47] := rfl
    rw [hm]
    clear hm h1 h2
    go_enter Try.func25, Try.ntmps25
    go_wp2
    go_ret
    exact ⟨rfl, (Below.refl _ _).alloc (Nat.le_refl _) _⟩
  · have hm : opm 5 = [37] := rfl
    rw [hm]
    clear hm h1 h2
    go_enter Try.func25, Try.ntmps25
    go_wp2
    go_ret
    exact ⟨rfl, (Below.refl _ _).alloc (Nat.le_refl _) _⟩
  · have hm : opm 6 = [60, 60] := rfl
    rw [hm]
    clear hm h1 h2
    go_enter Try.func25, Try.ntmps25
    go_wp2
    go_ret
    exact ⟨rfl, (Below.refl _ _).alloc (Nat.le_refl _) _⟩
  · have hm : opm 7 = [62, 62] := rfl
    rw [hm]
    clear hm h1 h2
    go_enter Try.func25, Try.ntmps25
    go_wp2
    go_ret
    exact ⟨rfl, (Below.refl _ _).alloc (Nat.le_refl _) _⟩
  · have hm : opm 8 = [38] := rfl
    rw [hm]
    clear hm h1 h2
    go_enter Try.func25, Try.ntmps25
    go_wp2
    go_ret
    exact ⟨rfl, (Below.refl _ _).alloc (Nat.le_refl _) _⟩
  · have hm : opm 9 = [124] := rfl
    rw [hm]
    clear hm h1 h2
    go_enter Try.func25, Try.ntmps25
    go_wp2
    go_ret
    exact ⟨rfl, (Below.refl _ _).alloc (Nat.le_refl _) _⟩
  · have hm : opm 10 = [94] := rfl
    rw [hm]
    clear hm h1 h2
    go_enter Try.func25, Try.ntmps25
    go_wp2
    go_ret
    exact ⟨rfl, (Below.refl _ _).alloc (Nat.le_refl _) _⟩
  · have hm : opm 11 = [61] := rfl
    rw [hm]
    clear hm h1 h2
    go_enter Try.func25, Try.ntmps25
    go_wp2
    go_ret
    exact ⟨rfl, (Below.refl _ _).alloc (Nat.le_refl _) _⟩
  · have hm : opm 12 = [60, 62] := rfl
    rw [hm]
    clear hm h1 h2
    go_enter Try.func25, Try.ntmps25
    go_wp2
    go_ret
    exact ⟨rfl, (Below.refl _ _).alloc (Nat.le_refl _) _⟩
  · have hm : opm 13 = [60] := rfl
    rw [hm]
    clear hm h1 h2
    go_enter Try.func25, Try.ntmps25
    go_wp2
    go_ret
    exact ⟨rfl, (Below.refl _ _).alloc (Nat.le_refl _) _⟩
  · have hm : opm 14 = [60, 61] := rfl
    rw [hm]
    clear hm h1 h2
    go_enter Try.func25, Try.ntmps25
    go_wp2
    go_ret
    exact ⟨rfl, (Below.refl _ _).alloc (Nat.le_refl _) _⟩
  · have hm : opm 15 = [62] := rfl
    rw [hm]
    clear hm h1 h2
    go_enter Try.func25, Try.ntmps25
    go_wp2
    go_ret
    exact ⟨rfl, (Below.refl _ _).alloc (Nat.le_refl _) _⟩
  · have hm : opm 16 = [62, 61] := rfl
    rw [hm]
    clear hm h1 h2
    go_enter Try.func25, Try.ntmps25
    go_wp2
    go_ret
    exact ⟨rfl, (Below.refl _ _).alloc (Nat.le_refl _) _⟩
def LevelPost (n : Nat) (w : World) (e : Ending) (w' : World) : Prop := ∃ c, e = .returned (.slice (some ⟨w.heap.size, 0, none⟩) (ops n).length c) ∧ (∀ k (h : k < (ops n).length), w'.cell? ⟨w.heap.size, k, none⟩ = some (.int .i64 ((ops n)[k]'h))) ∧ Below w.heap.size w w' ∧ w.heap.size < w'.heap.size
theorem ints_new (W : World) (t : TypeId) (l : List Int) (cs : Array Value) (h : cs = (l.map fun x => Value.int .i64 x).toArray) : ∀ k (hk : k < l.length), (W.alloc (.cells cs t)).cell? ⟨W.heap.size, k, none⟩ = some (.int .i64 (l[k]'hk)) := by
  intro k hk
  rw [cell_of_row _ _ _ _ _ _ (heap_alloc_new W _), h, List.getElem?_toArray, List.getElem?_map, List.getElem?_eq_getElem hk]
  rfl
set_option maxHeartbeats 4000000 in
theorem reflevel (n : Nat) (hn : n ≤ 5) (w : World) : Calls Try.prog 119 #[.int .i64 (n : Nat)] w (LevelPost n w) := by
  rcases (show n = 0 ∨ n = 1 ∨ n = 2 ∨ n = 3 ∨ n = 4 ∨ n = 5 by omega) with rfl | rfl | rfl | rfl | rfl | rfl
  all_goals
    go_enter Try.func119, Try.ntmps119
    go_wp2
    go_ret
    exact ⟨_, rfl, ints_new _ _ _ _ rfl, (Below.refl _ _).alloc (Nat.le_refl _) _, by simp⟩
end Go.Proofs.Ytilkilffkjhhbaa
