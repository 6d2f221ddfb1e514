/-
  An array of numbers that came in by value, opened.
-/
import Derived.Test.YtofjfpnkdcpngaaArrEq
import Derived.Test.YtofjfpnkdcpngaaShaB
import Derived.OpenShut
namespace Go.Proofs.Ytofjfpnkdcpngaa
open Go.RowKit Go.ChangeShapes Go.WideShapes

def numAt : Value → Int
  | .int _ z => z
  | _ => 0
theorem open_ints_row {H : Type} {enc : TypeId × Value → H} {P : Program} {w : World} {b0 base : Nat} {spare : Nat → Bool} {held : Bool} {r : Reach} {t e : TypeId} {n : Nat} {k : IntKind} {v : Value} {d : DataW H} {p : List MemPlace}
    (ht : P.underlying t = some (.array n e)) (he : P.underlying e = some (.int k)) (hc : P.cellsOf e = 1) (hC : P.cellsOf t = n)
    (hv : Value.okWide P w r b0 t v) (h : DataW.Trod enc P w base spare held t v d p) : ∃ zs : List Int, zs.length = n ∧ v = .agg (zs.map (Value.int k)).toArray ∧ ∀ z ∈ zs, (Lit.int k z).wf = true := by
  simp only [Value.okWide, ht] at hv
  obtain ⟨cs, rfl, hsz, _⟩ := hv
  obtain ⟨fuel, hf⟩ := h
  obtain ⟨xs, m, _, _, _, hxl, hel⟩ := DataW.trod_array ht hf
  have hone : (Value.agg cs).cells.toList = cs.toList := rfl
  have each : ∀ i, i < n → ∃ z, cs.toList[i]? = some (.int k z) ∧ (Lit.int k z).wf = true := by
    intro i hi
    have hE := hel i hi
    rw [hc, Nat.mul_one, List.getElem?_eq_getElem (by omega)] at hE
    obtain ⟨z, e1, _, hwf⟩ := DataW.trod_int he hE
    refine ⟨z, ?_, hwf⟩
    rw [hone] at e1
    have h0 : ((cs.toList.drop i).take 1)[0]? = some (.int k z) := by rw [e1]; rfl
    simpa using h0
  have hlen : cs.toList.length = n := by
    rw [Array.length_toList, hsz, hC]
  refine ⟨cs.toList.map numAt, by rw [List.length_map, hlen], ?_, ?_⟩
  · congr 1
    apply Array.ext'
    simp only [List.map_map]
    apply List.ext_getElem?
    intro i
    rw [List.getElem?_map]
    by_cases hi : i < n
    · obtain ⟨z, hz, _⟩ := each i hi
      rw [hz]
      rfl
    · rw [List.getElem?_eq_none (by omega)]
      rfl
  · intro z hz
    obtain ⟨v, hv, rfl⟩ := List.mem_map.1 hz
    obtain ⟨i, hi, rfl⟩ := List.getElem_of_mem hv
    obtain ⟨z, hz, hw⟩ := each i (by omega)
    rw [List.getElem?_eq_getElem hi] at hz
    injection hz with hz
    rw [hz]
    exact hw
theorem u8_back {z : Int} (h : (Lit.int .u8 z).wf = true) : ((UInt8.ofNat z.toNat).toNat : Int) = z := by
  have h2 := (Lit.wf_int_iff _ _).1 h
  have e1 : IntKind.u8.min = 0 := by decide
  have e2 : IntKind.u8.max = 255 := by decide
  rw [e1, e2] at h2
  rw [UInt8.toNat_ofNat']
  omega
theorem u32_back {z : Int} (h : (Lit.int .u32 z).wf = true) : ((UInt32.ofNat z.toNat).toNat : Int) = z := by
  have h2 := (Lit.wf_int_iff _ _).1 h
  have e1 : IntKind.u32.min = 0 := by decide
  have e2 : IntKind.u32.max = 4294967295 := by decide
  rw [e1, e2] at h2
  rw [UInt32.toNat_ofNat']
  omega
theorem open_arr32 {H : Type} {enc : TypeId × Value → H} {w : World} {b0 base : Nat} {spare : Nat → Bool} {held : Bool} {r : Reach} {v : Value} {d : DataW H} {p : List MemPlace}
    (hv : Value.okWide Try.prog w r b0 27 v) (h : DataW.Trod enc Try.prog w base spare held 27 v d p) (_hsz : ∀ n ∈ d.weights Try.prog 27, n ≤ reachBytes) :
    ∃ l : List UInt8, v = .agg (bcells l).toArray ∧ l.length = 32 := by
  obtain ⟨zs, hl, rfl, hw⟩ := open_ints_row (n := 32) (e := 5) (k := .u8) (by kernel_rfl) (by kernel_rfl) (by kernel_rfl) (by kernel_rfl) hv h
  refine ⟨zs.map fun z => UInt8.ofNat z.toNat, ?_, by rw [List.length_map, hl]⟩
  congr 2
  unfold bcells
  rw [List.map_map]
  refine List.map_congr_left fun z hz => ?_
  show Value.int .u8 z = Value.int .u8 _
  rw [u8_back (hw z hz)]
end Go.Proofs.Ytofjfpnkdcpngaa
