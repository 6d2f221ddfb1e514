/-
  Slices of bytes: what they read as, and small laws on them.
-/
import Derived.Test.YtofjfpnkdcpngaaMem
import Derived.Test.YtofjfpnkdcpngaaRows
import Derived.WalkSpells
import Derived.WalkLawsBesides
import Derived.Handy
import Derived.Lib.Hide
import Derived.LoopTactic
import Derived.Laws.BitsAllLaws
import Derived.Laws.BytesArg
import Derived.Laws.CopyOwn
import Derived.Laws.MakeOwn
import Derived.OwnWalk
import Derived.Deep.Cut
namespace Go.Proofs.Ytofjfpnkdcpngaa
open Go.RowKit Mem

/-- the cells from an address on are these bytes -/
def BytesAt (w : World) (A : Option Addr) (bs : List UInt8) : Prop := ∀ k (h : k < bs.length), ∃ b off, A = some ⟨b, off, none⟩ ∧ w.cell? ⟨b, off + k, none⟩ = some (.int .u8 ((bs[k]'h).toNat : Int))
theorem BytesAt.below {w w' : World} {A : Option Addr} {bs : List UInt8} {B : Nat} (h : BytesAt w A bs) (hb : Below B w w') (hB : w.heap.size ≤ B) : BytesAt w' A bs := by
  intro k hk
  obtain ⟨b, off, rfl, h0⟩ := h k hk
  have hlt := World.block_lt_of_cell? _ _ h0
  exact ⟨b, off, rfl, (hb.cell (p := ⟨b, _, none⟩) (Nat.lt_of_lt_of_le hlt hB)).trans h0⟩
def bcells (bs : List UInt8) : List Value := bs.map fun c => .int .u8 (c.toNat : Int)
theorem bcells_at (bs : List UInt8) (k : Nat) (h : k < bs.length) : (bcells bs)[k]? = some (.int .u8 ((bs[k]'h).toNat : Int)) := by
  unfold bcells; rw [List.getElem?_map, List.getElem?_eq_getElem h]; rfl
theorem BytesAt.of_own {w : World} {base c : Nat} {A : Option Addr} {bs : List UInt8} {e : TypeId} {n : Nat} (h : w.ownsRow base e 1 (.slice A n c) n (bcells bs)) : BytesAt w A bs := by
  intro k hk
  have hn : bs.length = n := by have := h.1; simpa [bcells] using this
  rcases h.2 with ⟨_, h2⟩ | ⟨g, cap, cur, hv, _, hg, hn', hc, hs, ht⟩
  · omega
  · injection hv with hv1 hv2 hv3
    subst hv1
    refine ⟨g, 0, rfl, ?_⟩
    rw [Nat.zero_add, cell_of_row w g k cur e (0, 0) hg]
    have hu := bcells_at bs k hk
    rw [← ht, List.getElem?_take] at hu
    split at hu
    · simpa using hu
    · cases hu
theorem infoByte : (Try.prog.info? 5).map (fun i => (i.zero, i.size, i.bytes)) = some (some (.int .u8 0), 1, 1) := by kernel_rfl
theorem make_bytes (m wd : Nat) (hm : m + wd ≤ 140737488355328) : ∃ Z : List Value, Z.length = m + wd ∧ ∀ wx : World,
    (Instr.makeSlice 22 (.int .i64 (m : Int)) (.int .i64 ((m : Int) + wd))).run Try.prog wx = .ok (.slice (some ⟨wx.heap.size, 0, none⟩) m (m + wd)) (wx.alloc (.cells Z.toArray 5)) := by
  refine ⟨(madeCells #[.int .u8 0] (m + wd)).toList, by rw [Array.length_toList, size_madeCells], fun wx => ?_⟩
  obtain ⟨i, hi, hz, hs, hb⟩ := info_parts infoByte
  have := run_make (P := Try.prog) wx 22 5 i (.int .u8 0) Try.underlying22 hi hz .i64 .i64 (m : Int) ((m : Int) + wd) (by omega) (by omega) (by rw [hb]; omega) (by omega)
  rw [this, hs]
  have e1 : ((m : Int)).toNat = m := by omega
  have e2 : ((m : Int) + wd).toNat = m + wd := by omega
  rw [e1, e2, Nat.mul_one]
  rfl
theorem bcells_one (bs : List UInt8) : ∀ v ∈ bcells bs, v.oneCell' = true := by
  intro v hv
  obtain ⟨c, _, rfl⟩ := List.mem_map.1 hv
  rfl
theorem bcells_append (a b : List UInt8) : bcells (a ++ b) = bcells a ++ bcells b := List.map_append
theorem bcells_length (a : List UInt8) : (bcells a).length = a.length := List.length_map ..
/-- the cells of a source of bytes, for the laws on copy and append -/
theorem BytesAt.src {w : World} {A : Option Addr} {bs : List UInt8} (h : BytesAt w A bs) (h0 : 0 < bs.length) : ∃ ad, A = some ad ∧ ∀ j v, (bcells bs)[j]? = some v → w.cell? (ad.add j) = some v := by
  obtain ⟨b, off, rfl, _⟩ := h 0 h0
  refine ⟨⟨b, off, none⟩, rfl, fun j v hv => ?_⟩
  have hj : j < bs.length := by
    rcases Nat.lt_or_ge j bs.length with h1 | h1
    · exact h1
    · rw [List.getElem?_eq_none (by rw [bcells_length]; exact h1)] at hv; cases hv
  rw [bcells_at bs j hj] at hv
  obtain rfl := (Option.some.inj hv).symm
  obtain ⟨b', off', he, hc⟩ := h j hj
  simp only [Option.some.injEq, Addr.mk.injEq, and_true] at he
  obtain ⟨rfl, rfl⟩ := he
  rw [add_plain]
  exact hc
theorem conv_bytes (w : World) (A : Option Addr) (c : Nat) (bs : List UInt8) (h : BytesAt w A bs) :
    (convert 22 9 (.slice A bs.length c)).run Try.prog w = .ok (.string ⟨bs.toArray⟩) w := by
  rcases Nat.eq_zero_or_pos bs.length with h0 | h0
  · obtain rfl : bs = [] := List.eq_nil_of_length_eq_zero h0
    rw [run_convert_bytes_string w 22 9 5 A _ c Try.underlying22 Try.underlying5 Try.underlying9]
    rcases A with _ | ad
    · simp [Conv.bytesToString]; rfl
    · have hl : (loadCells ad 0).run Try.prog w = .ok #[] w := run_loadCells_list (P := Try.prog) w ad [] (fun j v hj => by simp at hj)
      have := run_bytesToString (P := Try.prog) w ad 0 c [] (by simpa using hl)
      rw [List.length_nil, this]
      rfl
  · obtain ⟨b, off, rfl, _⟩ := h 0 h0
    have := run_convert_bytes_arg (P := Try.prog) w 22 5 Try.underlying22 Try.underlying5 b off bs.length c (bs.map fun u => (u.toNat : Int)) (by simp) (fun i hi => by
      obtain ⟨b', off', he, hc⟩ := h i hi
      simp only [Option.some.injEq, Addr.mk.injEq, and_true] at he
      obtain ⟨rfl, rfl⟩ := he
      rw [hc]
      simp [List.getD, List.getElem?_eq_getElem hi]) 9 Try.underlying9
    rw [this]
    congr 2
    unfold strOfNums
    congr 1
    rw [List.map_map]
    congr 1
    refine List.map_id'' (fun u => ?_) bs
    simp
end Go.Proofs.Ytofjfpnkdcpngaa
