/-
  Slices of bytes: what they read as, and small laws on them.
  The reference's functions on bytes with a mark behind them: Lent, Kept, Spoil.
  A slice of bytes that came in, opened.
  A slice of bytes that came in, opened, with its room.
  Slices of bytes; a row and a number returned together.
-/
import Derived.Test.YtilkilffkjhhbaaMem
import Derived.Test.YtilkilffkjhhbaaRows
import Derived.WalkSpells
import Derived.WalkLawsBesides
import Derived.Handy
import Derived.Lib.Hide
import Derived.LoopTactic
import Derived.Laws.BitsAllLaws
import Derived.Laws.BytesArg
import Derived.Laws.CopyOwn
import Derived.Laws.MakeOwn
import Derived.OwnWalk
import Derived.Deep.Cut
import Derived.Laws.OwnMore
import Derived.Maps.AppendAt
import Derived.Deep.AppendLies
import Derived.ProofKit
import Derived.OpenShut
import Derived.SizedLaws
import Derived.DataShut
import Derived.Laws.ResultCell
import Derived.Laws.Rows
namespace Go.Proofs.Ytilkilffkjhhbaa
set_option maxRecDepth 20000
set_option linter.unusedVariables false
open Go.RowKit Mem

/-- the cells from an address on are these bytes -/
def BytesAt (w : World) (A : Option Addr) (bs : List UInt8) : Prop := ∀ k (h : k < bs.length), ∃ b off, A = some ⟨b, off, none⟩ ∧ w.cell? ⟨b, off + k, none⟩ = some (.int .u8 ((bs[k]'h).toNat : Int))
theorem BytesAt.below {w w' : World} {A : Option Addr} {bs : List UInt8} {B : Nat} (h : BytesAt w A bs) (hb : Below B w w') (hB : w.heap.size ≤ B) : BytesAt w' A bs := by
  intro k hk
  obtain ⟨b, off, rfl, h0⟩ := h k hk
  have hlt := World.block_lt_of_cell? _ _ h0
  exact ⟨b, off, rfl, (hb.cell (p := ⟨b, _, none⟩) (Nat.lt_of_lt_of_le hlt hB)).trans h0⟩
def bcells (bs : List UInt8) : List Value := bs.map fun c => .int .u8 (c.toNat : Int)
theorem bcells_at (bs : List UInt8) (k : Nat) (h : k < bs.length) : (bcells bs)[k]? = some (.int .u8 ((bs[k]'h).toNat : Int)) := by
  unfold bcells; rw [List.getElem?_map, List.getElem?_eq_getElem h]; rfl
theorem BytesAt.of_own {w : World} {base c : Nat} {A : Option Addr} {bs : List UInt8} {e : TypeId} {n : Nat} (h : w.ownsRow base e 1 (.slice A n c) n (bcells bs)) : BytesAt w A bs := by
  intro k hk
  have hn : bs.length = n := by have := h.1; simpa [bcells] using this
  rcases h.2 with ⟨_, h2⟩ | ⟨g, cap, cur, hv, _, hg, hn', hc, hs, ht⟩
  · omega
  · injection hv with hv1 hv2 hv3
    subst hv1
    refine ⟨g, 0, rfl, ?_⟩
    rw [Nat.zero_add, cell_of_row w g k cur e (0, 0) hg]
    have hu := bcells_at bs k hk
    rw [← ht, List.getElem?_take] at hu
    split at hu
    · simpa using hu
    · cases hu
theorem infoByte : (Try.prog.info? 5).map (fun i => (i.zero, i.size, i.bytes)) = some (some (.int .u8 0), 1, 1) := by kernel_rfl
theorem make_bytes (m wd : Nat) (hm : m + wd ≤ 140737488355328) : ∃ Z : List Value, Z.length = m + wd ∧ ∀ wx : World,
    (Instr.makeSlice 109 (.int .i64 (m : Int)) (.int .i64 ((m : Int) + wd))).run Try.prog wx = .ok (.slice (some ⟨wx.heap.size, 0, none⟩) m (m + wd)) (wx.alloc (.cells Z.toArray 5)) := by
  refine ⟨(madeCells #[.int .u8 0] (m + wd)).toList, by rw [Array.length_toList, size_madeCells], fun wx => ?_⟩
  obtain ⟨i, hi, hz, hs, hb⟩ := info_parts infoByte
  have := run_make (P := Try.prog) wx 109 5 i (.int .u8 0) Try.underlying109 hi hz .i64 .i64 (m : Int) ((m : Int) + wd) (by omega) (by omega) (by rw [hb]; omega) (by omega)
  rw [this, hs]
  have e1 : ((m : Int)).toNat = m := by omega
  have e2 : ((m : Int) + wd).toNat = m + wd := by omega
  rw [e1, e2, Nat.mul_one]
  rfl
theorem bcells_one (bs : List UInt8) : ∀ v ∈ bcells bs, v.oneCell' = true := by
  intro v hv
  obtain ⟨c, _, rfl⟩ := List.mem_map.1 hv
  rfl
theorem bcells_append (a b : List UInt8) : bcells (a ++ b) = bcells a ++ bcells b := List.map_append
theorem bcells_length (a : List UInt8) : (bcells a).length = a.length := List.length_map ..
/-- the cells of a source of bytes, for the laws on copy and append -/
theorem BytesAt.src {w : World} {A : Option Addr} {bs : List UInt8} (h : BytesAt w A bs) (h0 : 0 < bs.length) : ∃ ad, A = some ad ∧ ∀ j v, (bcells bs)[j]? = some v → w.cell? (ad.add j) = some v := by
  obtain ⟨b, off, rfl, _⟩ := h 0 h0
  refine ⟨⟨b, off, none⟩, rfl, fun j v hv => ?_⟩
  have hj : j < bs.length := by
    rcases Nat.lt_or_ge j bs.length with h1 | h1
    · exact h1
    · rw [List.getElem?_eq_none (by rw [bcells_length]; exact h1)] at hv; cases hv
  rw [bcells_at bs j hj] at hv
  obtain rfl := (Option.some.inj hv).symm
  obtain ⟨b', off', he, hc⟩ := h j hj
  simp only [Option.some.injEq, Addr.mk.injEq, and_true] at he
  obtain ⟨rfl, rfl⟩ := he
  rw [add_plain]
  exact hc
theorem conv_bytes (w : World) (A : Option Addr) (c : Nat) (bs : List UInt8) (h : BytesAt w A bs) :
    (convert 109 9 (.slice A bs.length c)).run Try.prog w = .ok (.string ⟨bs.toArray⟩) w := by
  rcases Nat.eq_zero_or_pos bs.length with h0 | h0
  · obtain rfl : bs = [] := List.eq_nil_of_length_eq_zero h0
    rw [run_convert_bytes_string w 109 9 5 A _ c Try.underlying109 Try.underlying5 Try.underlying9]
    rcases A with _ | ad
    · simp [Conv.bytesToString]; rfl
    · have hl : (loadCells ad 0).run Try.prog w = .ok #[] w := run_loadCells_list (P := Try.prog) w ad [] (fun j v hj => by simp at hj)
      have := run_bytesToString (P := Try.prog) w ad 0 c [] (by simpa using hl)
      rw [List.length_nil, this]
      rfl
  · obtain ⟨b, off, rfl, _⟩ := h 0 h0
    have := run_convert_bytes_arg (P := Try.prog) w 109 5 Try.underlying109 Try.underlying5 b off bs.length c (bs.map fun u => (u.toNat : Int)) (by simp) (fun i hi => by
      obtain ⟨b', off', he, hc⟩ := h i hi
      simp only [Option.some.injEq, Addr.mk.injEq, and_true] at he
      obtain ⟨rfl, rfl⟩ := he
      rw [hc]
      simp [List.getD, List.getElem?_eq_getElem hi]) 9 Try.underlying9
    rw [this]
    congr 2
    unfold strOfNums
    congr 1
    rw [List.map_map]
    congr 1
    refine List.map_id'' (fun u => ?_) bs
    simp
end Go.Proofs.Ytilkilffkjhhbaa
namespace Go.Proofs.Ytilkilffkjhhbaa
set_option maxRecDepth 20000
set_option linter.unusedVariables false
open Go.RowKit Mem

/-- a slice value that reads as these bytes -/
abbrev BSrc (w : World) (A : Option Addr) (c : Nat) (bs : List UInt8) : Prop := Src w A bs.length c (bcells bs) 1
theorem BSrc.at_ {w : World} {A : Option Addr} {c : Nat} {bs : List UInt8} (h : BSrc w A c bs) : BytesAt w A bs := by
  intro k hk
  rcases A with _ | ad
  · have := (h.none rfl).1; omega
  · have hc := h.some ad rfl k _ (bcells_at bs k hk)
    obtain ⟨b, off, sp⟩ := ad
    have hsp : sp = none := by
      have h0 : ((⟨b, off, sp⟩ : Addr).add 0).spot = none := World.cell?_spot (h.some _ rfl 0 _ (bcells_at bs 0 (by omega)))
      simpa [Addr.add] using h0
    subst hsp
    rw [add_plain] at hc
    exact ⟨b, off, rfl, hc⟩
/-- bytes with a mark behind them, in memory that is nobody else's -/
def LentAt (w : World) (B : Nat) (A : Option Addr) (c : Nat) (bs : List UInt8) : Prop := w.ownsRow B 5 1 (.slice A (bs.length + 1) c) (bs.length + 1) (bcells (bs ++ [77]))
theorem LentAt.at_ {w : World} {B c : Nat} {A : Option Addr} {bs : List UInt8} (h : LentAt w B A c bs) : BytesAt w A bs := by
  have h1 : BytesAt w A (bs ++ [77]) := BytesAt.of_own h
  intro k hk
  obtain ⟨b, off, e, hc⟩ := h1 k (by simp; omega)
  exact ⟨b, off, e, by rw [hc, List.getElem_append_left hk]⟩
theorem LentAt.form {w : World} {B c : Nat} {A : Option Addr} {bs : List UInt8} (h : LentAt w B A c bs) : ∃ g, A = some ⟨g, 0, none⟩ ∧ B ≤ g ∧ g < w.heap.size ∧ bs.length + 1 ≤ c ∧ c ≤ maxLen ∧ w.cell? ⟨g, bs.length, none⟩ = some (.int .u8 77) := by
  rcases h.2 with ⟨_, h2⟩ | ⟨g, cap, cur, hv, hB, hg, hn', hc, hs, ht⟩
  · omega
  · injection hv with hv1 hv2 hv3
    subst hv1 hv3
    refine ⟨g, rfl, hB, (Array.getElem?_eq_some_iff.1 hg).1, hn', hc, ?_⟩
    obtain ⟨b', off', e, hc⟩ := BytesAt.of_own h bs.length (by simp)
    simp only [Option.some.injEq, Addr.mk.injEq, and_true] at e
    obtain ⟨rfl, rfl⟩ := e
    simpa using hc
theorem LentAt.below {w w' : World} {B B' c : Nat} {A : Option Addr} {bs : List UInt8} (h : LentAt w B A c bs) (hb : Below B' w w') (hB : w.heap.size ≤ B') : LentAt w' B A c bs := own_below h (hb.mono hB)
theorem grown_setCell (w : World) (g j : Nat) (u : Value) : w.grownBy (w.setCell ⟨g, j, none⟩ u) (some g) :=
  ⟨rfl, rfl, rfl, by simp, fun k _ hk => heap_setCell_other w ⟨g, j, none⟩ k u (fun e => hk (by simp [e]))⟩
theorem grown_new {w w' : World} {g : Nat} (h : w.grownBy w' (some g)) (hg : w.heap.size ≤ g) (row : Option Nat) : w.grownBy w' row :=
  ⟨h.os, h.tape, h.output, h.size, fun k hk _ => h.block k hk (fun e => by injection e; omega)⟩
theorem below_of_grown {B : Nat} {w w' : World} {row : Option Nat} (h : w.grownBy w' row) (hB : B ≤ w.heap.size) (hr : ∀ g, row = some g → B ≤ g) : Below B w w' := (Below.refl _ _).grown h hB hr
end Go.Proofs.Ytilkilffkjhhbaa
namespace Go.Proofs.Ytilkilffkjhhbaa
set_option maxRecDepth 20000
set_option linter.unusedVariables false
open Go.RowKit Go.ChangeShapes Go.WideShapes Mem

theorem bytesOfByte : Try.prog.bytesOf 5 = 1 := by kernel_rfl
theorem open_bytes {H : Type} {enc : TypeId × Value → H} {w : World} {b0 : Nat} {spare : Nat → Bool} {held : Bool} {r : Reach} {v : Value} {d : DataW H} {p : List MemPlace}
    (hv : Value.okWide Try.prog w r b0 109 v) (h : DataW.Trod enc Try.prog w 0 spare held 109 v d p) (hsz : ∀ n ∈ d.weights Try.prog 109, n ≤ reachBytes) :
    ∃ (A : Option Addr) (c : Nat) (bs : List UInt8), v = .slice A bs.length c ∧ BSrc w A c bs ∧ bs.length ≤ 140737488351232 := by
  obtain ⟨A, n, c, rfl⟩ := okWide_slice Try.underlying109 hv
  obtain ⟨fuel, hf⟩ := h
  rcases open_ints Try.underlying109 Try.underlying5 (by kernel_rfl) hf with ⟨hcs, _⟩ | ⟨x, l, c', zs, hcs, _, hl, hm, hz, hd, hcell, hwz⟩
  · simp [Value.cells] at hcs
    obtain ⟨rfl, rfl, rfl⟩ := hcs
    exact ⟨none, 0, [], rfl, ⟨by simp [bcells], fun _ => ⟨rfl, rfl⟩, fun ad h => by cases h⟩, by simp⟩
  · simp [Value.cells] at hcs
    obtain ⟨rfl, rfl, rfl⟩ := hcs
    have hzl : n ≤ zs.length := by rw [hz]; split <;> omega
    simp only [Prod.mk.injEq] at hd
    obtain ⟨rfl, _⟩ := hd
    have hw := hsz (((zs.take n).length + (zs.drop n).length) * Try.prog.bytesOf 5) (by simp [DataW.weights, Try.underlying109, lits])
    rw [bytesOfByte] at hw
    simp only [List.length_take, List.length_drop, reachBytes] at hw
    have hn : n ≤ 140737488351232 := by omega
    refine ⟨some x, c, (zs.take n).map fun z => UInt8.ofNat z.toNat, by simp; omega, ⟨?_, fun h => (by cases h), ?_⟩, by simp; omega⟩
    · simp [bcells]
    · intro ad hx j u hu
      injection hx with hx
      subst hx
      have hj : j < n := by
        rcases Nat.lt_or_ge j n with h1 | h1
        · exact h1
        · rw [List.getElem?_eq_none (by simp [bcells]; omega)] at hu; cases hu
      have hjz : j < zs.length := by omega
      have hc := hcell j hjz
      have hwf := hwz (zs[j]'hjz) (List.getElem_mem _)
      have hr : 0 ≤ zs[j]'hjz ∧ zs[j]'hjz < 256 := by
        have h2 := (Lit.wf_int_iff _ _).1 hwf
        have e1 : IntKind.u8.min = 0 := by decide
        have e2 : IntKind.u8.max = 255 := by decide
        rw [e1, e2] at h2
        omega
      rw [hc, ← hu]
      simp only [bcells, List.getElem?_map, List.getElem?_take, hj, if_true, List.getElem?_eq_getElem hjz, Option.map_some, List.getD_eq_getElem?_getD, Option.getD_some]
      rw [UInt8.toNat_ofNat']
      congr 2
      omega
end Go.Proofs.Ytilkilffkjhhbaa
namespace Go.Proofs.Ytilkilffkjhhbaa
set_option maxRecDepth 20000
set_option linter.unusedVariables false
open Go.RowKit Go.ChangeShapes Go.WideShapes Mem

theorem open_bytes_c {H : Type} {enc : TypeId × Value → H} {w : World} {b0 : Nat} {held : Bool} {r : Reach} {v : Value} {d : DataW H} {p : List MemPlace}
    (hv : Value.okWide Try.prog w r b0 109 v) (h : DataW.Trod enc Try.prog w 0 (fun _ => true) held 109 v d p) (hsz : ∀ n ∈ d.weights Try.prog 109, n ≤ reachBytes) :
    ∃ (A : Option Addr) (c : Nat) (bs : List UInt8), v = .slice A bs.length c ∧ (BSrc w A c bs ∧ bs.length ≤ c ∧ c ≤ 140737488351232) := by
  obtain ⟨A, c, bs, hv1, hb, hl⟩ := open_bytes hv h hsz
  refine ⟨A, c, bs, hv1, hb, ?_⟩
  subst hv1
  obtain ⟨fuel, hf⟩ := h
  rcases open_ints Try.underlying109 Try.underlying5 (by kernel_rfl) hf with ⟨hcs, _⟩ | ⟨x, l, c', zs, hcs, _, hl, hm, hz, hd, hcell, hwz⟩
  · simp [Value.cells] at hcs
    obtain ⟨rfl, rfl, rfl⟩ := hcs
    simp
  · simp only [Value.cells, List.cons.injEq, Value.slice.injEq, and_true] at hcs
    obtain ⟨rfl, rfl, rfl⟩ := hcs
    simp only [if_true] at hz
    simp only [Prod.mk.injEq] at hd
    obtain ⟨rfl, _⟩ := hd
    have hw := hsz (((zs.take bs.length).length + (zs.drop bs.length).length) * Try.prog.bytesOf 5) (by simp [DataW.weights, Try.underlying109, lits])
    rw [bytesOfByte] at hw
    simp only [List.length_take, List.length_drop, reachBytes] at hw
    omega
end Go.Proofs.Ytilkilffkjhhbaa
namespace Go.Proofs.Ytilkilffkjhhbaa
set_option maxRecDepth 20000
set_option linter.unusedVariables false
open Go.RowKit Mem

theorem results_row_tmp {P : Program} {fn : Func} {p u : Tmp} {ty : TypeId} (h : fn.results = #[.cell p ty, .tmp u]) (tmps : Array Value) (w : World) (g : Nat) (t : TypeId) (cs : Array Value) (fr : Nat × Nat) (d : TypeDesc) (v : Value)
    (hp : tmps.getD p undef = .pointer (some ⟨g, 0, none⟩)) (hg : w.heap[g]? = some (.cells cs t fr))
    (hu : P.underlying ty = some d) (hd : (match d with | .struct _ | .array _ _ => true | _ => false) = true) (hi : (P.info? ty).map (·.size) = some cs.size) (hv : tmps.getD u undef = v) :
    (results fn tmps).run P w = .ok (.tuple #[.agg cs, v]) w := by
  rw [results_cell_tmp (P := P) h, hp, hv]
  simp [asAddr, run_loadVar_row w g t ty cs fr d hg hu hd hi, Result.andThen]
theorem BytesAt.sliced {w : World} {A : Option Addr} {b : List UInt8} (h : BytesAt w A b) (lo hi m : Nat) (h1 : lo ≤ hi) (h2 : hi ≤ b.length) (h3 : hi ≤ m) : ∃ A', Go.sliced A lo hi m 1 = .slice A' (hi - lo) (m - lo) ∧ BytesAt w A' ((b.take hi).drop lo) := by
  unfold Go.sliced
  refine ⟨_, rfl, ?_⟩
  intro k hk
  have hk' : lo + k < hi := by rw [List.length_drop, List.length_take] at hk; omega
  obtain ⟨b0, off, rfl, hc⟩ := h (lo + k) (by omega)
  refine ⟨b0, off + lo, ?_, ?_⟩
  · rw [if_neg (by omega), Nat.mul_one, Option.map_some, add_plain]
  · rw [List.getElem_drop, List.getElem_take, Nat.add_assoc]
    exact hc
theorem size_u8 (w : World) : (sizeOf (Try.prog.elem 109)).run Try.prog w = .ok 1 w := by
  have e : Try.prog.elem 109 = 5 := by kernel_rfl
  obtain ⟨i0, hi, hi0, hi1, hi2⟩ := info_parts infoByte
  rw [e, run_sizeOf _ hi]
  have : Try.prog.cellsOf 5 = 1 := by kernel_rfl
  rw [this]
theorem slice_from {w : World} {A : Option Addr} {b : List UInt8} (c : Nat) (h : BytesAt w A b) (lo : Nat) (h1 : lo ≤ b.length) (h2 : b.length ≤ c) :
    ∃ A', BytesAt w A' (b.drop lo) ∧ ∀ wx, (Instr.slice 109 (.slice A b.length c) (some (.int .i64 (lo : Int))) none none).run Try.prog wx = .ok (.slice A' (b.length - lo) (c - lo)) wx := by
  obtain ⟨A', hs, hb⟩ := h.sliced lo b.length c h1 (Nat.le_refl _) h2
  rw [List.take_length] at hb
  refine ⟨A', hb, fun wx => ?_⟩
  rw [run_slice_l (P := Try.prog) wx _ A b.length c (by kernel_rfl) _ _ (by omega) (by omega), size_u8]
  simp only [Result.andThen, Int.toNat_natCast, hs]
theorem slice_to {w : World} {A : Option Addr} {b : List UInt8} (c : Nat) (h : BytesAt w A b) (hi : Nat) (h1 : hi ≤ b.length) (h2 : b.length ≤ c) :
    ∃ A', BytesAt w A' (b.take hi) ∧ ∀ wx, (Instr.slice 109 (.slice A b.length c) none (some (.int .i64 (hi : Int))) none).run Try.prog wx = .ok (.slice A' hi c) wx := by
  obtain ⟨A', hs, hb⟩ := h.sliced 0 hi c (Nat.zero_le _) h1 (by omega)
  rw [List.drop_zero] at hb
  refine ⟨A', hb, fun wx => ?_⟩
  rw [run_slice_h (P := Try.prog) wx _ A b.length c (by kernel_rfl) _ _ (by omega) (by omega), size_u8]
  simp only [Result.andThen, Int.toNat_natCast, hs, Nat.sub_zero]
theorem slice_mid {w : World} {A : Option Addr} {b : List UInt8} (c : Nat) (h : BytesAt w A b) (lo hi : Nat) (h0 : lo ≤ hi) (h1 : hi ≤ b.length) (h2 : b.length ≤ c) :
    ∃ A', BytesAt w A' ((b.take hi).drop lo) ∧ ∀ wx, (Instr.slice 109 (.slice A b.length c) (some (.int .i64 (lo : Int))) (some (.int .i64 (hi : Int))) none).run Try.prog wx = .ok (.slice A' (hi - lo) (c - lo)) wx := by
  obtain ⟨A', hs, hb⟩ := h.sliced lo hi c h0 h1 (by omega)
  refine ⟨A', hb, fun wx => ?_⟩
  rw [run_slice_lh (P := Try.prog) wx _ A b.length c (by kernel_rfl) _ _ _ _ (by omega) (by omega) (by omega), size_u8]
  simp only [Result.andThen, Int.toNat_natCast, hs]
/-- a part of bytes that are there, as the source of an append -/
theorem slice_mid_src {w : World} {A : Option Addr} {b : List UInt8} (c : Nat) (h : BytesAt w A b) (lo hi : Nat) (h0 : lo ≤ hi) (h1 : hi ≤ b.length) (h2 : b.length ≤ c) (hb : 0 < b.length) :
    ∃ A', Src w A' (hi - lo) (c - lo) (bcells ((b.take hi).drop lo)) 1 ∧ ∀ wx, (Instr.slice 109 (.slice A b.length c) (some (.int .i64 (lo : Int))) (some (.int .i64 (hi : Int))) none).run Try.prog wx = .ok (.slice A' (hi - lo) (c - lo)) wx := by
  obtain ⟨b0, off, hA, _⟩ := h 0 hb
  obtain ⟨A1, hA1, hs⟩ := slice_mid c h lo hi h0 h1 h2
  have hx : (Instr.slice 109 (.slice A b.length c) (some (.int .i64 (lo : Int))) (some (.int .i64 (hi : Int))) none).run Try.prog w = .ok (Go.sliced A lo hi c 1) w := by
    rw [run_slice_lh (P := Try.prog) w _ A b.length c (by kernel_rfl) _ _ _ _ (by omega) (by omega) (by omega), size_u8]
    simp only [Result.andThen, Int.toNat_natCast]
  have he := (hs w).symm.trans hx
  injection he with he _
  unfold Go.sliced at he
  injection he with he _ _
  have hl : ((b.take hi).drop lo).length = hi - lo := by rw [List.length_drop, List.length_take]; omega
  have hne : ∃ ad, A1 = some ad := by
    rw [he, hA]
    split
    · exact ⟨_, rfl⟩
    · exact ⟨_, rfl⟩
  obtain ⟨ad, rfl⟩ := hne
  refine ⟨some ad, ⟨by rw [bcells_length, hl, Nat.mul_one], fun e => (by cases e), ?_⟩, hs⟩
  rintro ad' e j u hu
  injection e with e
  subst e
  have hj : j < ((b.take hi).drop lo).length := by
    rcases Nat.lt_or_ge j ((b.take hi).drop lo).length with h3 | h3
    · exact h3
    · rw [List.getElem?_eq_none (by rw [bcells_length]; exact h3)] at hu; cases hu
  obtain ⟨ad2, e2, hh⟩ := hA1.src (by omega)
  injection e2 with e2
  subst e2
  exact hh j u hu
end Go.Proofs.Ytilkilffkjhhbaa
