/-
  The drawn statement of the law MacKeys, whatever the order.
  The walk of the law MacKeys: a key and zeros behind it tag alike, and a longer key tags as its digest.
  The walk of the law MacTags: block and tag are as the document says, and what was lent is kept.
-/
import Derived.Test.YtjhopgmionpkoaaMac1
import Derived.Test.YtjhopgmionpkoaaCells
import Derived.Test.YtjhopgmionpkoaaRgn
import Derived.Maps.AppendAt
import Derived.Test.YtjhopgmionpkoaaMac2
namespace Go.Proofs.Ytjhopgmionpkoaa
set_option maxRecDepth 20000
open Go.RowKit Mem

set_option linter.unusedVariables false
end Go.Proofs.Ytjhopgmionpkoaa
namespace Go.Proofs.Ytjhopgmionpkoaa
set_option maxRecDepth 20000
open Go.RowKit Mem

theorem eq64 (xs ys : List UInt8) (hx : xs.length = 64) (hy : ys.length = 64) (w : World) : (Op.equalIn 10000 69 (.agg (bcells xs).toArray) (.agg (bcells ys).toArray)).run Try.prog w = .ok (xs == ys) w :=
  run_equalIn_bytes (P := Try.prog) w 9998 69 5 64 (by kernel_rfl) (by kernel_rfl) size_of_u8 xs ys hx hy
theorem eql64 (xs ys : List UInt8) (hx : xs.length = 64) (hy : ys.length = 64) (w : World) : (binOp .eql 69 (.agg (bcells xs).toArray) (.agg (bcells ys).toArray)).run Try.prog w = .ok (.bool (xs == ys)) w := by
  rw [run_eql_struct, eq64 xs ys hx hy]; rfl
def padK (k : List UInt8) (j : Nat) : List UInt8 := k ++ List.replicate j 0
theorem padK_len (k : List UInt8) (j : Nat) : (padK k j).length = k.length + j := by
  unfold padK; rw [List.length_append, List.length_replicate]
theorem padK_zero (k : List UInt8) : padK k 0 = k := List.append_nil _
theorem padK_succ (k : List UInt8) (j : Nat) : bcells (padK k (j + 1)) = bcells (padK k j) ++ [.int .u8 0] := by
  unfold padK
  rw [List.replicate_succ', ← List.append_assoc, bcells_append]
  rfl
theorem blockOf_pad (k : List UInt8) (j : Nat) (h : k.length + j ≤ 64) : blockOf (padK k j) = blockOf k := by
  have h1 : keyOf (padK k j) = padK k j := by unfold keyOf; rw [if_pos (by rw [padK_len]; omega)]
  have h2 : keyOf k = k := by unfold keyOf; rw [if_pos (by omega)]
  unfold blockOf
  rw [h1, h2, padK_len]
  unfold padK
  rw [List.append_assoc, List.replicate_append_replicate, show j + (64 - (k.length + j)) = 64 - k.length by omega]
theorem tagOf_pad (k b : List UInt8) (j : Nat) (h : k.length + j ≤ 64) : tagOf (padK k j) b = tagOf k b := by
  unfold tagOf innerOf; rw [blockOf_pad k j h]
theorem blockOf_long (k : List UInt8) (h : 64 < k.length) : blockOf (sumOf k) = blockOf k := by
  have h1 : keyOf k = sumOf k := by unfold keyOf; rw [if_neg (by omega)]
  have h2 : keyOf (sumOf k) = sumOf k := by unfold keyOf; rw [if_pos (by rw [sumOf_len]; omega)]
  unfold blockOf
  rw [h1, h2]
theorem tagOf_long (k b : List UInt8) (h : 64 < k.length) : tagOf (sumOf k) b = tagOf k b := by
  unfold tagOf innerOf; rw [blockOf_long k h]
end Go.Proofs.Ytjhopgmionpkoaa
namespace Go.Proofs.Ytjhopgmionpkoaa
set_option maxRecDepth 20000
open Go.RowKit Mem

theorem lent_src {w1 : World} {B : Nat} {A1 : Option Addr} {c1 : Nat} {b : List UInt8} (hL1 : LentAt w1 B A1 c1 b) : BSrc w1 A1 c1 b ∧ b.length ≤ c1 ∧ c1 ≤ 9223372036854775807 := by
  obtain ⟨g1, hg1, _, _, hc1, hm1, _⟩ := hL1.form
  refine ⟨⟨by rw [bcells_length, Nat.mul_one], (fun h => by rw [hg1] at h; cases h), fun ad had j u hu => ?_⟩, ?_⟩
  · have hj : j < b.length := by
      rcases Nat.lt_or_ge j b.length with h2 | h2
      · exact h2
      · rw [List.getElem?_eq_none (by rw [bcells_length]; exact h2)] at hu; cases hu
    obtain ⟨ad', he, hc⟩ := hL1.at_.src (by omega)
    rw [had] at he
    injection he with he
    subst he
    exact hc j u hu
  · unfold maxLen at hm1; omega
end Go.Proofs.Ytjhopgmionpkoaa
