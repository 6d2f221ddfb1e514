/-
  Texts as sums, by the package sha: Unhex; and what must come of the layer's fixed calls.
-/
import Derived.Test.YtofjfpnkdcpngaaShaF
import Derived.Test.YtofjfpnkdcpngaaShaS
namespace Go.Proofs.Ytofjfpnkdcpngaa
open Go.RowKit Mem

/-- a digit's value -/
def nib (c : UInt8) : Option Nat := if 48 ≤ c.toNat ∧ c.toNat ≤ 57 then some (c.toNat - 48) else if 97 ≤ c.toNat ∧ c.toNat ≤ 102 then some (c.toNat - 87) else none
theorem nib_lt {c : UInt8} {n : Nat} (h : nib c = some n) : n < 16 := by
  unfold nib at h
  split at h
  · injection h; omega
  · split at h
    · injection h; omega
    · cases h
theorem nib_dig : ∀ n, n < 16 → nib (dig n) = some n := by decide
def pairAt (l : List UInt8) (i : Nat) : Option UInt8 := (nib (l.getD (2 * i) 0)).bind fun h => (nib (l.getD (2 * i + 1) 0)).map fun k => UInt8.ofNat (16 * h + k)
def pre (l : List UInt8) (k : Nat) : List UInt8 := (List.range k).map fun i => (pairAt l i).getD 0
theorem pre_len (l : List UInt8) (k : Nat) : (pre l k).length = k := by simp [pre]
theorem pre_succ (l : List UInt8) (k : Nat) : pre l (k + 1) = pre l k ++ [(pairAt l k).getD 0] := by simp [pre, List.range_succ]
def allP (l : List UInt8) (k : Nat) : Bool := (List.range k).all fun i => (pairAt l i).isSome
theorem allP_succ (l : List UInt8) (k : Nat) : allP l (k + 1) = (allP l k && (pairAt l k).isSome) := by simp [allP, List.range_succ]
theorem allP_none {l : List UInt8} {k : Nat} (n : Nat) (hk : k < n) (h : pairAt l k = none) : allP l n = false := by
  rw [allP, List.all_eq_false]
  exact ⟨k, List.mem_range.2 hk, by simp [h]⟩
/-- what a text says as a sum -/
def unhexV (l : List UInt8) : List UInt8 × Int := if l.length = 64 ∧ allP l 32 = true then (pre l 32, 0) else (List.replicate 32 0, 4)
theorem unhexV_bad {l : List UInt8} (h : l.length ≠ 64) : unhexV l = (List.replicate 32 0, 4) := if_neg (fun h2 => h h2.1)
theorem unhexV_no {l : List UInt8} {k : Nat} (hk : k < 32) (h : pairAt l k = none) : unhexV l = (List.replicate 32 0, 4) := if_neg (fun h2 => by rw [allP_none 32 hk h] at h2; cases h2.2)
theorem unhexV_ok {l : List UInt8} (h : l.length = 64) (h2 : allP l 32 = true) : unhexV l = (pre l 32, 0) := if_pos ⟨h, h2⟩
theorem unhexV_len (l : List UInt8) : (unhexV l).1.length = 32 := by
  unfold unhexV
  split
  · exact pre_len l 32
  · simp
theorem hexL_get (l : List UInt8) : ∀ i (h : i < l.length), (hexL l).getD (2 * i) 0 = dig ((l[i]'h).toNat / 16) ∧ (hexL l).getD (2 * i + 1) 0 = dig ((l[i]'h).toNat % 16) := by
  induction l with
  | nil => intro i h; exact absurd h (by simp)
  | cons c l ih =>
    intro i h
    have e : hexL (c :: l) = dig (c.toNat / 16) :: dig (c.toNat % 16) :: hexL l := rfl
    cases i with
    | zero => rw [e]; exact ⟨rfl, rfl⟩
    | succ i =>
      have := ih i (by simpa using h)
      rw [e, show 2 * (i + 1) = (2 * i + 1) + 1 by omega, show 2 * i + 1 + 1 + 1 = (2 * i + 1 + 1) + 1 by omega]
      simpa using this
theorem pairAt_hex (l : List UInt8) (i : Nat) (h : i < l.length) : pairAt (hexL l) i = some (l[i]'h) := by
  obtain ⟨h1, h2⟩ := hexL_get l i h
  have hc := (l[i]'h).toNat_lt
  unfold pairAt
  rw [h1, h2, nib_dig _ (by omega), nib_dig _ (by omega)]
  simp only [Option.bind_some, Option.map_some]
  congr 1
  apply UInt8.toNat_inj.1
  rw [UInt8.toNat_ofNat']
  omega
/-- what is written is read as it was -/
theorem unhexV_hex (l : List UInt8) (hl : l.length = 32) : unhexV (hexL l) = (l, 0) := by
  have h1 : (hexL l).length = 64 := by rw [hexL_len, hl]
  have h2 : allP (hexL l) 32 = true := by
    rw [allP, List.all_eq_true]
    intro i hi
    rw [pairAt_hex l i (by have := List.mem_range.1 hi; omega)]
    rfl
  rw [unhexV_ok h1 h2]
  congr 1
  apply List.ext_getElem
  · rw [pre_len, hl]
  · intro i h3 h4
    simp [pre, pairAt_hex l i h4]

theorem run_index_at (l : List UInt8) (k : Nat) (h : k < l.length) (n : Int) (hn : n = k) (w : World) :
    (Instr.index 9 (.string ⟨l.toArray⟩) (.int .i64 n)).run Try.prog w = .ok (.int .u8 ((l[k]'h).toNat : Int)) w := by
  subst hn
  have hs : (⟨l.toArray⟩ : ByteArray).size = l.length := rfl
  rw [run_index_string _ _ _ _ _ Try.underlying9, dif_pos ⟨by omega, by rw [hs]; omega⟩]
  rfl
theorem zero_cells : (bcells (List.replicate 32 0)).toArray = Array.replicate 32 (.int .u8 0) := by kernel_rfl
def preC (l : List UInt8) (k : Nat) : Array Value := (bcells (pre l k ++ List.replicate (32 - k) 0)).toArray
theorem preC_zero (l : List UInt8) : preC l 0 = Array.replicate 32 (.int .u8 0) := zero_cells
theorem preC_size (l : List UInt8) (k : Nat) (hk : k ≤ 32) : (preC l k).size = 32 := by
  unfold preC
  rw [List.size_toArray, bcells_length, List.length_append, pre_len, List.length_replicate]
  omega
theorem preC_step (l : List UInt8) (k : Nat) (hk : k < 32) (x : UInt8) (hx : pairAt l k = some x) : (preC l k).setIfInBounds k (.int .u8 (x.toNat : Int)) = preC l (k + 1) := by
  unfold preC
  rw [List.setIfInBounds_toArray, pre_succ, hx, Option.getD_some]
  congr 1
  obtain ⟨m, hm⟩ : ∃ m, 32 - k = m + 1 := ⟨31 - k, by omega⟩
  have e : 32 - (k + 1) = m := by omega
  rw [hm, e, List.replicate_succ, bcells_append, bcells_append, bcells_append, List.append_assoc]
  have hl : (bcells (pre l k)).length = k := by rw [bcells_length, pre_len]
  rw [List.set_append_right _ _ (by omega), hl, Nat.sub_self]
  rfl
theorem preC_last (l : List UInt8) : preC l 32 = (bcells (pre l 32)).toArray := by unfold preC; rw [show 32 - 32 = 0 from rfl, List.replicate_zero, List.append_nil]
theorem join16 (h k : Nat) (hh : h < 16) (hk : k < 16) : bits .or .u8 ((h : Int) * 16) (k : Int) = ((UInt8.ofNat (16 * h + k)).toNat : Int) := by
  have e : (h : Int) * 16 = ((h * 16 : Nat) : Int) := by simp
  rw [e, u8_or_nat _ _ (by omega) (by omega), nat_join 4 _ _ (by omega) (by omega), UInt8.toNat_ofNat']
  omega
theorem cells_one32 (l : List UInt8) : (bcells l).toArray.all (·.oneCell') = true := by unfold bcells; simp [Value.oneCell']
theorem sumOf_len (b : List UInt8) : (sumOf b).length = 32 := by
  unfold sumOf
  rw [outB_len]
  rfl
theorem src_new (w : World) (t : TypeId) (fr : Nat × Nat) (l : List UInt8) (n g : Nat) (hn : n = l.length) (hg : g = w.heap.size) : Src (w.alloc (.cells (bcells l).toArray t fr)) (some ⟨g, 0, none⟩) n n (bcells l) 1 :=
  ⟨by rw [bcells_length, hn, Nat.mul_one], fun h => (by cases h), fun ad h j u hu => by
    injection h with h
    subst h
    subst hg
    rw [add_at, cell_of_row _ w.heap.size j _ t fr (heap_alloc_new w _)]
    simpa using hu⟩
def abc : List UInt8 := [97, 98, 99]
def abcHex : List UInt8 := [98, 97, 55, 56, 49, 54, 98, 102, 56, 102, 48, 49, 99, 102, 101, 97, 52, 49, 52, 49, 52, 48, 100, 101, 53, 100, 97, 101, 50, 50, 50, 51, 98, 48, 48, 51, 54, 49, 97, 51, 57, 54, 49, 55, 55, 97, 57, 99, 98, 52, 49, 48, 102, 102, 54, 49, 102, 50, 48, 48, 49, 53, 97, 100]
theorem abc_hex : hexL (sumOf abc) = abcHex := by decide +kernel
end Go.Proofs.Ytofjfpnkdcpngaa
