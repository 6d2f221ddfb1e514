/-
  A row of bytes as a source of bytes.
-/
import Derived.Test.YtofjfpnkdcpngaaMacB
import Derived.Test.YtofjfpnkdcpngaaRegPut
namespace Go.Proofs.Ytofjfpnkdcpngaa
open Go.RowKit Mem

theorem src_row {w : World} {g n : Nat} {l : List UInt8} {t : TypeId} (h : w.heap[g]? = some (.cells (bcells l).toArray t (0, 0))) (hn : n = l.length) : Src w (some ⟨g, 0, none⟩) n n (bcells l) 1 :=
  ⟨by rw [bcells_length, hn, Nat.mul_one], fun h => (by cases h), fun ad had j u hu => by
    injection had with had
    subst had
    rw [add_at, cell_of_row w g j _ t (0, 0) h]
    simpa using hu⟩
end Go.Proofs.Ytofjfpnkdcpngaa
