/-
  An array of numbers that came in by value, opened.
-/
import Derived.Test.YtjglboejgmplgaaArrEq
import Derived.Test.YtjglboejgmplgaaShaB
import Derived.OpenShut
namespace Go.Proofs.Ytjglboejgmplgaa
open Go.RowKit Go.ChangeShapes Go.WideShapes

def numAt : Value → Int
  | .int _ z => z
  | _ => 0
theorem open_ints_row {H : Type} {enc : TypeId × Value → H} {P : Program} {w : World} {b0 base : Nat} {spare : Nat → Bool} {held : Bool} {r : Reach} {t e : TypeId} {n : Nat} {k : IntKind} {v : Value} {d : DataW H} {p : List MemPlace}
    (ht : P.underlying t = some (.array n e)) (he : P.underlying e = some (.int k)) (hc : P.cellsOf e = 1) (hC : P.cellsOf t = n)
    (hv : Value.okWide P w r b0 t v) (h : DataW.Trod enc P w base spare held t v d p) : ∃ zs : List Int, zs.length = n ∧ v = .agg (zs.map (Value.int k)).toArray ∧ ∀ z ∈ zs, (Lit.int k z).wf = true := by
  simp only [Value.okWide, ht] at hv
  obtain ⟨cs, rfl, hsz, _⟩ := hv
  obtain ⟨fuel, hf⟩ := h
  obtain ⟨xs, m, _, _, _, hxl, hel⟩ := DataW.trod_array ht hf
  have hone : (Value.agg cs).cells.toList = cs.toList := rfl
  have each : ∀ i, i < n → ∃ z, cs.toList[i]? = some (.int k z) ∧ (Lit.int k z).wf = true := by
    intro i hi
    have hE := hel i hi
    rw [hc, Nat.mul_one, List.getElem?_eq_getElem (by omega)] at hE
    obtain ⟨z, e1, _, hwf⟩ := DataW.trod_int he hE
    refine ⟨z, ?_, hwf⟩
    rw [hone] at e1
    have h0 : ((cs.toList.drop i).take 1)[0]? = some (.int k z) := by rw [e1]; rfl
    simpa using h0
  have hlen : cs.toList.length = n := by
    rw [Array.length_toList, hsz, hC]
  refine ⟨cs.toList.map numAt, by rw [List.length_map, hlen], ?_, ?_⟩
  · congr 1
    apply Array.ext'
    simp only [List.map_map]
    apply List.ext_getElem?
    intro i
    rw [List.getElem?_map]
    by_cases hi : i < n
    · obtain ⟨z, hz, _⟩ := each i hi
      rw [hz]
      rfl
    · rw [List.getElem?_eq_none (by omega)]
      rfl
  · intro z hz
    obtain ⟨v, hv, rfl⟩ := List.mem_map.1 hz
    obtain ⟨i, hi, rfl⟩ := List.getElem_of_mem hv
    obtain ⟨z, hz, hw⟩ := each i (by omega)
    rw [List.getElem?_eq_getElem hi] at hz
    injection hz with hz
    rw [hz]
    exact hw
theorem u8_back {z : Int} (h : (Lit.int .u8 z).wf = true) : ((UInt8.ofNat z.toNat).toNat : Int) = z := by
  have h2 := (Lit.wf_int_iff _ _).1 h
  have e1 : IntKind.u8.min = 0 := by decide
  have e2 : IntKind.u8.max = 255 := by decide
  rw [e1, e2] at h2
  rw [UInt8.toNat_ofNat']
  omega
theorem u32_back {z : Int} (h : (Lit.int .u32 z).wf = true) : ((UInt32.ofNat z.toNat).toNat : Int) = z := by
  have h2 := (Lit.wf_int_iff _ _).1 h
  have e1 : IntKind.u32.min = 0 := by decide
  have e2 : IntKind.u32.max = 4294967295 := by decide
  rw [e1, e2] at h2
  rw [UInt32.toNat_ofNat']
  omega
theorem open_row8 {H : Type} {enc : TypeId × Value → H} {w : World} {b0 base : Nat} {spare : Nat → Bool} {held : Bool} {r : Reach} {v : Value} {d : DataW H} {p : List MemPlace}
    (hv : Value.okWide Try.prog w r b0 23 v) (h : DataW.Trod enc Try.prog w base spare held 23 v d p) (_hsz : ∀ n ∈ d.weights Try.prog 23, n ≤ reachBytes) :
    ∃ s : Sh.St, v = .agg (wcells (Sh.stL s)).toArray ∧ True := by
  obtain ⟨zs, hl, rfl, hw⟩ := open_ints_row (n := 8) (e := 22) (k := .u32) (by kernel_rfl) (by kernel_rfl) (by kernel_rfl) (by kernel_rfl) hv h
  match zs, hl with
  | [z0, z1, z2, z3, z4, z5, z6, z7], _ =>
    refine ⟨⟨UInt32.ofNat z0.toNat, UInt32.ofNat z1.toNat, UInt32.ofNat z2.toNat, UInt32.ofNat z3.toNat, UInt32.ofNat z4.toNat, UInt32.ofNat z5.toNat, UInt32.ofNat z6.toNat, UInt32.ofNat z7.toNat⟩, ?_, trivial⟩
    simp only [wcells, Sh.stL, List.map_cons, List.map_nil]
    rw [u32_back (hw z0 (by simp)), u32_back (hw z1 (by simp)), u32_back (hw z2 (by simp)), u32_back (hw z3 (by simp)), u32_back (hw z4 (by simp)), u32_back (hw z5 (by simp)), u32_back (hw z6 (by simp)), u32_back (hw z7 (by simp))]
theorem open_arr32 {H : Type} {enc : TypeId × Value → H} {w : World} {b0 base : Nat} {spare : Nat → Bool} {held : Bool} {r : Reach} {v : Value} {d : DataW H} {p : List MemPlace}
    (hv : Value.okWide Try.prog w r b0 37 v) (h : DataW.Trod enc Try.prog w base spare held 37 v d p) (_hsz : ∀ n ∈ d.weights Try.prog 37, n ≤ reachBytes) :
    ∃ l : List UInt8, v = .agg (bcells l).toArray ∧ l.length = 32 := by
  obtain ⟨zs, hl, rfl, hw⟩ := open_ints_row (n := 32) (e := 5) (k := .u8) (by kernel_rfl) (by kernel_rfl) (by kernel_rfl) (by kernel_rfl) hv h
  refine ⟨zs.map fun z => UInt8.ofNat z.toNat, ?_, by rw [List.length_map, hl]⟩
  congr 2
  unfold bcells
  rw [List.map_map]
  refine List.map_congr_left fun z hz => ?_
  show Value.int .u8 z = Value.int .u8 _
  rw [u8_back (hw z hz)]
end Go.Proofs.Ytjglboejgmplgaa
