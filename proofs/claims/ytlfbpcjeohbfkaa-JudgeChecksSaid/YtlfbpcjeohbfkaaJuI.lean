/-
  Integers in memory, all of one block.
-/
import Derived.Test.YtlfbpcjeohbfkaaJuT
namespace Go.Proofs.Ytlfbpcjeohbfkaa
set_option maxRecDepth 20000
open Go.RowKit Mem

def mCells (n : Nat) (M : Nat → Int) : Array Value := ((List.range (n + 1)).map fun j => .int .i64 (M j)).toArray
theorem mc_get (n : Nat) (M : Nat → Int) (j : Nat) (h : j ≤ n) : (mCells n M)[j]? = some (.int .i64 (M j)) := by
  unfold mCells
  rw [List.getElem?_toArray, List.getElem?_map, List.getElem?_range (by omega)]
  rfl
theorem mc_size (n : Nat) (M : Nat → Int) : (mCells n M).size = n + 1 := by simp [mCells]
theorem mc_ext (n : Nat) (M : Nat → Int) (xs : Array Value) (hs : xs.size = n + 1) (h : ∀ j, j ≤ n → xs[j]? = some (.int .i64 (M j))) : xs = mCells n M := by
  apply Array.ext
  · rw [hs, mc_size]
  · intro i h1 h2
    have h3 := h i (by omega)
    have h4 := mc_get n M i (by omega)
    rw [Array.getElem?_eq_getElem h1] at h3
    rw [Array.getElem?_eq_getElem h2] at h4
    exact Option.some.inj (h3.trans h4.symm)
theorem mc_set (n : Nat) (M : Nat → Int) (k : Nat) (h : k ≤ n) (v : Int) : (mCells n M).setIfInBounds k (.int .i64 v) = mCells n (updM M k v) := by
  refine mc_ext n _ _ (by simp [mc_size]) (fun j hj => ?_)
  by_cases e : j = k
  · subst e
    rw [Array.getElem?_setIfInBounds_self_of_lt (by rw [mc_size]; omega)]
    unfold updM; rw [if_pos rfl]
  · rw [Array.getElem?_setIfInBounds_ne (fun hh => e hh.symm), mc_get n M j hj]
    unfold updM; rw [if_neg e]
def MAt (w : World) (g n : Nat) (M : Nat → Int) : Prop := w.heap[g]? = some (.cells (mCells n M) 3 (0, 0))
theorem MAt.cell {w : World} {g n : Nat} {M : Nat → Int} (h : MAt w g n M) (j : Nat) (hj : j ≤ n) : w.cell? ⟨g, j, none⟩ = some (.int .i64 (M j)) := by
  rw [cell_of_row w g j _ _ (0, 0) h, mc_get n M j hj]
theorem MAt.frozen {w : World} {g n : Nat} {M : Nat → Int} (h : MAt w g n M) (j : Nat) : w.frozen? ⟨g, j, none⟩ = false := by simp [World.frozen?, show w.heap[g]? = _ from h]
theorem infoInt : (Try.prog.info? 3).map (fun i => (i.zero, i.size, i.bytes)) = some (some (.int .i64 0), 1, 8) := by kernel_rfl
theorem made_ints (n : Nat) : madeCells (Value.int .i64 0).cells ((n + 1) * 1) = mCells n (fun _ => 0) := by
  refine mc_ext n _ _ (by rw [size_madeCells]; omega) (fun j hj => ?_)
  have hz : (Value.int .i64 0).cells = #[.int .i64 0] := rfl
  unfold madeCells
  rw [hz, Array.getElem?_map, Array.getElem?_range, if_pos (by omega)]
  simp [Nat.mod_one]
theorem make_ints (n : Nat) (hn : n ≤ 600) (w : World) : (Instr.makeSlice 46 (.int .i64 ((n : Int) + 1)) (.int .i64 ((n : Int) + 1))).run Try.prog w = .ok (.slice (some ⟨w.heap.size, 0, none⟩) (n + 1) (n + 1)) (w.alloc (.cells (mCells n (fun _ => 0)) 3)) := by
  obtain ⟨i, hi, hz, hs, hb⟩ := info_parts infoInt
  have := run_make (P := Try.prog) w 46 3 i _ Try.underlying46 hi hz .i64 .i64 ((n : Int) + 1) ((n : Int) + 1) (by omega) (by omega) (by rw [hb]; omega) (by omega)
  have e : ((n : Int) + 1).toNat = n + 1 := by omega
  rw [this, e, hs, made_ints]
end Go.Proofs.Ytlfbpcjeohbfkaa
