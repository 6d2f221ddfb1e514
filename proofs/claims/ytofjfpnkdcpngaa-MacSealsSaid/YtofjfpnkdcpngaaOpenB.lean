/-
  A slice of bytes that came in, opened.
-/
import Derived.Test.YtofjfpnkdcpngaaWords
import Derived.ProofKit
import Derived.OpenShut
import Derived.SizedLaws
import Derived.DataShut
namespace Go.Proofs.Ytofjfpnkdcpngaa
open Go.RowKit Go.ChangeShapes Go.WideShapes Mem

theorem bytesOfByte : Try.prog.bytesOf 5 = 1 := by kernel_rfl
theorem open_bytes {H : Type} {enc : TypeId × Value → H} {w : World} {b0 : Nat} {spare : Nat → Bool} {held : Bool} {r : Reach} {v : Value} {d : DataW H} {p : List MemPlace}
    (hv : Value.okWide Try.prog w r b0 22 v) (h : DataW.Trod enc Try.prog w 0 spare held 22 v d p) (hsz : ∀ n ∈ d.weights Try.prog 22, n ≤ reachBytes) :
    ∃ (A : Option Addr) (c : Nat) (bs : List UInt8), v = .slice A bs.length c ∧ BSrc w A c bs ∧ bs.length ≤ 140737488351232 := by
  obtain ⟨A, n, c, rfl⟩ := okWide_slice Try.underlying22 hv
  obtain ⟨fuel, hf⟩ := h
  rcases open_ints Try.underlying22 Try.underlying5 (by kernel_rfl) hf with ⟨hcs, _⟩ | ⟨x, l, c', zs, hcs, _, hl, hm, hz, hd, hcell, hwz⟩
  · simp [Value.cells] at hcs
    obtain ⟨rfl, rfl, rfl⟩ := hcs
    exact ⟨none, 0, [], rfl, ⟨by simp [bcells], fun _ => ⟨rfl, rfl⟩, fun ad h => by cases h⟩, by simp⟩
  · simp [Value.cells] at hcs
    obtain ⟨rfl, rfl, rfl⟩ := hcs
    have hzl : n ≤ zs.length := by rw [hz]; split <;> omega
    simp only [Prod.mk.injEq] at hd
    obtain ⟨rfl, _⟩ := hd
    have hw := hsz (((zs.take n).length + (zs.drop n).length) * Try.prog.bytesOf 5) (by simp [DataW.weights, Try.underlying22, lits])
    rw [bytesOfByte] at hw
    simp only [List.length_take, List.length_drop, reachBytes] at hw
    have hn : n ≤ 140737488351232 := by omega
    refine ⟨some x, c, (zs.take n).map fun z => UInt8.ofNat z.toNat, by simp; omega, ⟨?_, fun h => (by cases h), ?_⟩, by simp; omega⟩
    · simp [bcells]
    · intro ad hx j u hu
      injection hx with hx
      subst hx
      have hj : j < n := by
        rcases Nat.lt_or_ge j n with h1 | h1
        · exact h1
        · rw [List.getElem?_eq_none (by simp [bcells]; omega)] at hu; cases hu
      have hjz : j < zs.length := by omega
      have hc := hcell j hjz
      have hwf := hwz (zs[j]'hjz) (List.getElem_mem _)
      have hr : 0 ≤ zs[j]'hjz ∧ zs[j]'hjz < 256 := by
        have h2 := (Lit.wf_int_iff _ _).1 hwf
        have e1 : IntKind.u8.min = 0 := by decide
        have e2 : IntKind.u8.max = 255 := by decide
        rw [e1, e2] at h2
        omega
      rw [hc, ← hu]
      simp only [bcells, List.getElem?_map, List.getElem?_take, hj, if_true, List.getElem?_eq_getElem hjz, Option.map_some, List.getD_eq_getElem?_getD, Option.getD_some]
      rw [UInt8.toNat_ofNat']
      congr 2
      omega
end Go.Proofs.Ytofjfpnkdcpngaa
