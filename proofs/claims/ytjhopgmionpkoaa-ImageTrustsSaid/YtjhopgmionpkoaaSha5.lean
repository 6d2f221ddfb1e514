/-
  The reference's Spoil on the tail of a row: the cells ahead of it are as they were.
  Two arrays of numbers are compared; a slice's head and its rest, with what Spoil leaves of the head.
  An array of numbers that came in by value, opened.
-/
import Derived.Test.YtjhopgmionpkoaaCells
import Derived.ArgAppend
import Derived.Test.YtjhopgmionpkoaaBytes
import Derived.Stop.BytesEq
import Derived.Test.YtjhopgmionpkoaaSha1
import Derived.OpenShut
namespace Go.Proofs.Ytjhopgmionpkoaa
set_option maxRecDepth 20000
open Go.RowKit Mem

def HeadKept (w w' : World) (g off : Nat) (cur : Array Value) : Prop := w.grownBy w' (some g) ∧ ∃ cur' : Array Value, w'.heap[g]? = some (.cells cur' 5 (0, 0)) ∧ cur'.size = cur.size ∧ ∀ j, j < off → cur'[j]? = cur[j]?
end Go.Proofs.Ytjhopgmionpkoaa
namespace Go.Proofs.Ytjhopgmionpkoaa
set_option maxRecDepth 20000
open Go.RowKit Go.ChangeShapes Mem

/-- a slice of bytes that came in -/
def BArg (w : World) (A : Option Addr) (c : Nat) (bs : List UInt8) : Prop := BSrc w A c bs ∧ bs.length ≤ c ∧ c ≤ 140737488351232
theorem equalIn_self {P : Program} (w : World) (d : Nat) (t e : TypeId) (n : Nat) (k : IntKind) (ht : P.underlying t = some (.array n e)) (he : P.underlying e = some (.int k)) (hsz : ∀ w, (sizeOf e).run P w = .ok 1 w)
    (xs : List Int) (hx : xs.length = n) :
    (Op.equalIn (d + 2) t (.agg (xs.map (Value.int k)).toArray) (.agg (xs.map (Value.int k)).toArray)).run P w = .ok true w := by
  rw [Op.equalIn]
  simp only [Sem.run_bind, run_underlying ht, Result.andThen_ok, hsz, Std.Legacy.Range.forIn_eq_forIn_range', Std.Legacy.Range.size, Nat.sub_zero, Nat.add_sub_cancel, Nat.div_one]
  have hl : ∀ i ∈ List.range' 0 n 1, i < n := fun i hi => by simpa using (List.mem_range'_1.1 hi).2
  generalize List.range' 0 n 1 = l at hl ⊢
  induction l with
  | nil => simp
  | cons i l ih =>
    have hi : i < n := hl i (by simp)
    have px : (part e (xs.map (Value.int k)).toArray (i * 1)).run P w = .ok (.int k (xs.getD i 0)) w := by
      simp [part, isAgg, run_underlying he, List.getD, List.getElem?_eq_getElem (show i < xs.length by omega)]
    have pe : (Op.equalIn (d + 1) e (.int k (xs.getD i 0)) (.int k (xs.getD i 0))).run P w = .ok true w := by
      rw [run_equalIn_int w d e k k _ _ he]
      simp
    simp only [List.forIn_cons, Sem.run_bind, px, pe, Result.andThen_ok]
    simp only [Bool.not_true, Bool.false_eq_true, if_false, Sem.run_pure, Result.andThen_ok]
    exact ih fun j hj => hl j (by simp [hj])
theorem size_of_u8 (w : World) : (sizeOf 5).run Try.prog w = .ok 1 w := by
  obtain ⟨i0, hi, hi0, hi1, hi2⟩ := info_parts infoByte
  rw [run_sizeOf _ hi]
  have : Try.prog.cellsOf 5 = 1 := by kernel_rfl
  rw [this]
theorem eq32 (xs ys : List UInt8) (hx : xs.length = 32) (hy : ys.length = 32) (w : World) : (Op.equalIn 10000 44 (.agg (bcells xs).toArray) (.agg (bcells ys).toArray)).run Try.prog w = .ok (xs == ys) w :=
  run_equalIn_bytes (P := Try.prog) w 9998 44 5 32 (by kernel_rfl) (by kernel_rfl) size_of_u8 xs ys hx hy
theorem eql32 (xs ys : List UInt8) (hx : xs.length = 32) (hy : ys.length = 32) (w : World) : (binOp .eql 44 (.agg (bcells xs).toArray) (.agg (bcells ys).toArray)).run Try.prog w = .ok (.bool (xs == ys)) w := by
  rw [run_eql_struct, eq32 xs ys hx hy]; rfl
def headA (A : Option Addr) (c : Nat) : Option Addr := if c = 0 then A else A.map (·.add 0)
theorem src_to {w : World} {A : Option Addr} {b : List UInt8} (c : Nat) (h : BSrc w A c b) (hi : Nat) (h1 : hi ≤ b.length) (h2 : b.length ≤ c) :
    BSrc w (headA A c) c (b.take hi) ∧ ∀ wx, (Instr.slice 31 (.slice A b.length c) none (some (.int .i64 (hi : Int))) none).run Try.prog wx = .ok (.slice (headA A c) hi c) wx := by
  unfold headA
  refine ⟨⟨by simp [bcells], ?_, ?_⟩, fun wx => ?_⟩
  · intro hn
    rcases A with _ | ad
    · obtain ⟨h3, h4⟩ := h.none rfl
      simp
      omega
    · split at hn <;> cases hn
  · rintro ad had j u hu
    have hlt : j < hi := by
      rcases Nat.lt_or_ge j hi with h5 | h5
      · exact h5
      · rw [List.getElem?_eq_none (by rw [bcells_length, List.length_take]; omega)] at hu; cases hu
    have hu' : (bcells b)[j]? = some u := by
      rw [← hu]
      simp [bcells, hlt]
    rcases A with _ | a0
    · split at had <;> cases had
    · rw [if_neg (by omega), Option.map_some] at had
      injection had with had
      subst had
      obtain ⟨b', off, rfl⟩ : ∃ b' off, a0 = ⟨b', off, none⟩ := by
        obtain ⟨b', off, e, _⟩ := h.at_ j (by omega)
        injection e with e
        exact ⟨b', off, e⟩
      rw [add_plain, Nat.add_zero]
      exact h.some _ rfl j u hu'
  · have hsz : (sizeOf (Try.prog.elem 31)).run Try.prog wx = .ok 1 wx := by
      have e : Try.prog.elem 31 = 5 := by kernel_rfl
      rw [e, size_of_u8]
    rw [run_slice_h (P := Try.prog) wx _ A b.length c (by kernel_rfl) _ _ (by omega) (by omega), hsz]
    simp only [Result.andThen, Int.toNat_natCast, sliced, Nat.sub_zero, Nat.zero_mul]
/-- what is spoiled behind a head leaves the head -/
theorem open_bytes_cap {H : Type} {enc : TypeId × Value → H} {w : World} {b0 : Nat} {held : Bool} {r : Reach} {v : Value} {d : DataW H} {p : List MemPlace}
    (hv : Value.okWide Try.prog w r b0 31 v) (h : DataW.Trod enc Try.prog w 0 (fun _ => true) held 31 v d p) (hsz : ∀ n ∈ d.weights Try.prog 31, n ≤ reachBytes) :
    ∃ (A : Option Addr) (c : Nat) (bs : List UInt8), v = .slice A bs.length c ∧ (BSrc w A c bs ∧ bs.length ≤ c ∧ c ≤ 140737488351232) := by
  obtain ⟨A, c, bs, hv1, hb, hl⟩ := open_bytes hv h hsz
  refine ⟨A, c, bs, hv1, hb, ?_⟩
  subst hv1
  obtain ⟨fuel, hf⟩ := h
  rcases open_ints Try.underlying31 Try.underlying5 (by kernel_rfl) hf with ⟨hcs, _⟩ | ⟨x, l, c', zs, hcs, _, hl, hm, hz, hd, hcell, hwz⟩
  · simp [Value.cells] at hcs
    obtain ⟨rfl, rfl, rfl⟩ := hcs
    simp
  · simp only [Value.cells, List.cons.injEq, Value.slice.injEq, and_true] at hcs
    obtain ⟨rfl, rfl, rfl⟩ := hcs
    simp only [if_true] at hz
    simp only [Prod.mk.injEq] at hd
    obtain ⟨rfl, _⟩ := hd
    have hw := hsz (((zs.take bs.length).length + (zs.drop bs.length).length) * Try.prog.bytesOf 5) (by simp [DataW.weights, Try.underlying31, lits])
    rw [bytesOfByte] at hw
    simp only [List.length_take, List.length_drop, reachBytes] at hw
    omega
end Go.Proofs.Ytjhopgmionpkoaa
namespace Go.Proofs.Ytjhopgmionpkoaa
set_option maxRecDepth 20000
open Go.RowKit Go.ChangeShapes Go.WideShapes

def numAt : Value → Int
  | .int _ z => z
  | _ => 0
theorem open_ints_row {H : Type} {enc : TypeId × Value → H} {P : Program} {w : World} {b0 base : Nat} {spare : Nat → Bool} {held : Bool} {r : Reach} {t e : TypeId} {n : Nat} {k : IntKind} {v : Value} {d : DataW H} {p : List MemPlace}
    (ht : P.underlying t = some (.array n e)) (he : P.underlying e = some (.int k)) (hc : P.cellsOf e = 1) (hC : P.cellsOf t = n)
    (hv : Value.okWide P w r b0 t v) (h : DataW.Trod enc P w base spare held t v d p) : ∃ zs : List Int, zs.length = n ∧ v = .agg (zs.map (Value.int k)).toArray ∧ ∀ z ∈ zs, (Lit.int k z).wf = true := by
  simp only [Value.okWide, ht] at hv
  obtain ⟨cs, rfl, hsz, _⟩ := hv
  obtain ⟨fuel, hf⟩ := h
  obtain ⟨xs, m, _, _, _, hxl, hel⟩ := DataW.trod_array ht hf
  have hone : (Value.agg cs).cells.toList = cs.toList := rfl
  have each : ∀ i, i < n → ∃ z, cs.toList[i]? = some (.int k z) ∧ (Lit.int k z).wf = true := by
    intro i hi
    have hE := hel i hi
    rw [hc, Nat.mul_one, List.getElem?_eq_getElem (by omega)] at hE
    obtain ⟨z, e1, _, hwf⟩ := DataW.trod_int he hE
    refine ⟨z, ?_, hwf⟩
    rw [hone] at e1
    have h0 : ((cs.toList.drop i).take 1)[0]? = some (.int k z) := by rw [e1]; rfl
    simpa using h0
  have hlen : cs.toList.length = n := by
    rw [Array.length_toList, hsz, hC]
  refine ⟨cs.toList.map numAt, by rw [List.length_map, hlen], ?_, ?_⟩
  · congr 1
    apply Array.ext'
    simp only [List.map_map]
    apply List.ext_getElem?
    intro i
    rw [List.getElem?_map]
    by_cases hi : i < n
    · obtain ⟨z, hz, _⟩ := each i hi
      rw [hz]
      rfl
    · rw [List.getElem?_eq_none (by omega)]
      rfl
  · intro z hz
    obtain ⟨v, hv, rfl⟩ := List.mem_map.1 hz
    obtain ⟨i, hi, rfl⟩ := List.getElem_of_mem hv
    obtain ⟨z, hz, hw⟩ := each i (by omega)
    rw [List.getElem?_eq_getElem hi] at hz
    injection hz with hz
    rw [hz]
    exact hw
theorem u8_back {z : Int} (h : (Lit.int .u8 z).wf = true) : ((UInt8.ofNat z.toNat).toNat : Int) = z := by
  have h2 := (Lit.wf_int_iff _ _).1 h
  have e1 : IntKind.u8.min = 0 := by decide
  have e2 : IntKind.u8.max = 255 := by decide
  rw [e1, e2] at h2
  rw [UInt8.toNat_ofNat']
  omega
theorem u32_back {z : Int} (h : (Lit.int .u32 z).wf = true) : ((UInt32.ofNat z.toNat).toNat : Int) = z := by
  have h2 := (Lit.wf_int_iff _ _).1 h
  have e1 : IntKind.u32.min = 0 := by decide
  have e2 : IntKind.u32.max = 4294967295 := by decide
  rw [e1, e2] at h2
  rw [UInt32.toNat_ofNat']
  omega
theorem open_arr32 {H : Type} {enc : TypeId × Value → H} {w : World} {b0 base : Nat} {spare : Nat → Bool} {held : Bool} {r : Reach} {v : Value} {d : DataW H} {p : List MemPlace}
    (hv : Value.okWide Try.prog w r b0 44 v) (h : DataW.Trod enc Try.prog w base spare held 44 v d p) (_hsz : ∀ n ∈ d.weights Try.prog 44, n ≤ reachBytes) :
    ∃ l : List UInt8, v = .agg (bcells l).toArray ∧ l.length = 32 := by
  obtain ⟨zs, hl, rfl, hw⟩ := open_ints_row (n := 32) (e := 5) (k := .u8) (by kernel_rfl) (by kernel_rfl) (by kernel_rfl) (by kernel_rfl) hv h
  refine ⟨zs.map fun z => UInt8.ofNat z.toNat, ?_, by rw [List.length_map, hl]⟩
  congr 2
  unfold bcells
  rw [List.map_map]
  refine List.map_congr_left fun z hz => ?_
  show Value.int .u8 z = Value.int .u8 _
  rw [u8_back (hw z hz)]
end Go.Proofs.Ytjhopgmionpkoaa
