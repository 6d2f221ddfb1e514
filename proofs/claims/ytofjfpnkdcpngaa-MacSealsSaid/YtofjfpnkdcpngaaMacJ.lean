/-
  Strings of bytes that are compared, and a row as bytes at an address.
-/
import Derived.Test.YtofjfpnkdcpngaaMacG
namespace Go.Proofs.Ytofjfpnkdcpngaa
open Go.RowKit Mem

theorem ba_loop (l : List UInt8) : ∀ (n i : Nat) (r : List UInt8), l.length - i = n → ByteArray.toList.loop ⟨l.toArray⟩ i r = r.reverse ++ l.drop i
  | 0, i, r, h => by
    unfold ByteArray.toList.loop
    rw [if_neg (by show ¬ i < l.toArray.size; simp; omega), List.drop_of_length_le (by omega), List.append_nil]
  | n + 1, i, r, h => by
    unfold ByteArray.toList.loop
    have hi : i < l.length := by omega
    rw [if_pos (by show i < l.toArray.size; simpa using hi), ba_loop l n (i + 1) _ (by omega), List.drop_eq_getElem_cons hi]
    have hg : (⟨l.toArray⟩ : ByteArray).get! i = l[i]'hi := by
      show l.toArray.getD i default = _
      simp [hi]
    rw [hg]
    simp
theorem ba_toList (l : List UInt8) : (⟨l.toArray⟩ : ByteArray).toList = l := by
  unfold ByteArray.toList
  rw [ba_loop l _ 0 [] rfl]
  simp
theorem str_eq (s r : List UInt8) : ((⟨s.toArray⟩ : ByteArray).toList == (⟨r.toArray⟩ : ByteArray).toList) = (s == r) := by
  rw [ba_toList, ba_toList]
theorem row_bytes {w : World} {g : Nat} {t : TypeId} {l : List UInt8} (h : w.heap[g]? = some (.cells (bcells l).toArray t (0, 0))) : BytesAt w (some ⟨g, 0, none⟩) l := fun k hk =>
  ⟨g, 0, rfl, by rw [Nat.zero_add, cell_of_row w g k _ t (0, 0) h, List.getElem?_toArray]; exact bcells_at l k hk⟩
end Go.Proofs.Ytofjfpnkdcpngaa
