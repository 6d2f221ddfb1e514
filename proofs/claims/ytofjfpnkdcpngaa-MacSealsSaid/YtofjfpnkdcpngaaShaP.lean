/-
  What stands behind bytes: Pad of the package sha and of its reference.
-/
import Derived.Test.YtofjfpnkdcpngaaShaA
import Derived.IntWalk
namespace Go.Proofs.Ytofjfpnkdcpngaa
open Go.RowKit Mem

def be8 (m : Nat) : List UInt8 := (List.range 8).map fun j => UInt8.ofNat (m / 2 ^ (56 - 8 * j) % 256)
theorem be8_len (m : Nat) : (be8 m).length = 8 := by simp [be8]
theorem be8_at (m j : Nat) (h : j < (be8 m).length) : (be8 m)[j]'h = UInt8.ofNat (m / 2 ^ (56 - 8 * j) % 256) := by simp [be8]
/-- how many noughts -/
def zeros (n : Nat) : Nat := (119 - n % 64) % 64
def padOf (n : Nat) : List UInt8 := (128 :: List.replicate (zeros n) 0) ++ be8 (n * 8)
theorem made_zero (v : Value) (n : Nat) : (madeCells #[v] n).toList = List.replicate n v := by
  apply List.ext_getElem
  · simp [size_madeCells]
  · intro i h1 h2
    simp [madeCells, Nat.mod_one]
theorem bcells_rep (n : Nat) : bcells (List.replicate n 0) = List.replicate n (.int .u8 0) := by simp [bcells]
theorem make_pad (L : Nat) (hL : L ≤ 73) : ∃ Z : List Value, Z.length = 73 ∧ Z = List.replicate 73 (.int .u8 0) ∧ ∀ wx : World,
    (Instr.makeSlice 22 (.int .i64 (L : Int)) (.int .i64 73)).run Try.prog wx = .ok (.slice (some ⟨wx.heap.size, 0, none⟩) L 73) (wx.alloc (.cells Z.toArray 5)) := by
  refine ⟨(madeCells #[.int .u8 0] 73).toList, by rw [Array.length_toList, size_madeCells], made_zero _ _, fun wx => ?_⟩
  obtain ⟨i, hi, hz, hs, hb⟩ := info_parts infoByte
  have := run_make (P := Try.prog) wx 22 5 i (.int .u8 0) Try.underlying22 hi hz .i64 .i64 (L : Int) 73 (by omega) (by omega) (by rw [hb]; omega) (by omega)
  rw [this, hs]
  have e1 : ((L : Int)).toNat = L := by omega
  rw [e1]
  rfl
set_option maxRecDepth 100000 in
set_option maxHeartbeats 4000000 in
theorem shapad_ok (n : Nat) (w : World) (hn : n ≤ 1152921504606846976) :
    Calls Try.prog 28 #[.int .i64 n] w fun e w' => ∃ v, e = .returned (.tuple #[v, .int .i64 0]) ∧ w'.ownsRow w.heap.size 5 1 v (padOf n).length (bcells (padOf n)) ∧ Below w.heap.size w w' := by
  obtain ⟨i0, hi, hi0, hi1, hi2⟩ := info_parts infoByte
  obtain ⟨L, hL⟩ : ∃ L, L = zeros n + 1 := ⟨_, rfl⟩
  have hLle : L ≤ 64 := by unfold zeros at hL; omega
  obtain ⟨Z, hZl, hZ, hmk⟩ := make_pad L (by omega)
  have hLi : 1 + (119 - (n : Int)) % 64 = (L : Int) := by unfold zeros at hL; omega
  have hZ0 : 0 < Z.length := by omega
  have hL0 : (0 : Int) < (L : Int) := by omega
  have HL := Lib.hid hL
  have HZ := Lib.hid hZ
  have b0 : (0 : Int) ≤ n := by omega
  have b1 : (n : Int) ≤ 1152921504606846976 := by omega
  clear hL hZ hn
  go_enter Try.func28, Try.ntmps28
  go_wp2_with fail
  have hst : (w.alloc (Obj.cells (Z.set 0 (Value.int IntKind.u8 128)).toArray 5)).ownsRow w.heap.size 5 1 (.slice (some ⟨w.heap.size, 0, none⟩) L 73) (L + 0) (bcells ((128 :: List.replicate (zeros n) 0) ++ (be8 (n * 8)).take 0)) := by
    have h1 := HL.out
    have h2 := HZ.out
    subst h1 h2
    refine ⟨by simp [bcells], .inr ⟨w.heap.size, 73, _, rfl, Nat.le_refl _, heap_alloc_new _ _, by omega, by unfold maxLen; omega, by simp, ?_⟩⟩
    rw [List.take_zero, List.append_nil, Nat.add_zero, Nat.mul_one]
    have e : (List.replicate 73 (Value.int IntKind.u8 0)).set 0 (Value.int IntKind.u8 128) = Value.int IntKind.u8 128 :: List.replicate 72 (Value.int IntKind.u8 0) := rfl
    rw [e, List.take_succ_cons, List.take_replicate, show min (zeros n) 72 = zeros n by unfold zeros; omega]
    unfold bcells
    rw [List.map_cons, List.map_replicate]
    rfl
  have HST := Lib.hid hst
  have HBB : Hid (Below w.heap.size w (w.alloc (Obj.cells (Z.set 0 (Value.int IntKind.u8 128)).toArray 5))) := (Below.refl _ _).alloc (Nat.le_refl _) _
  clear hst
  rw [show (119 - (n : Int) % 64) % 64 = (119 - (n : Int)) % 64 by omega]
  go_loopw [4, 5] (fun v i wr => ∃ j : Nat, j ≤ 8 ∧ i = .int .i64 (56 - 8 * (j : Int)) ∧ Hid (wr.ownsRow w.heap.size 5 1 v (L + j) (bcells ((128 :: List.replicate (zeros n) 0) ++ (be8 (n * 8)).take j))) ∧ Hid (Below w.heap.size w wr)) (fun _ i _ => (intOf i + 8).toNat)
  case atStart => exact ⟨0, by omega, rfl, HST, HBB⟩
  case round =>
    obtain ⟨j, hj, rfl, hO, hB⟩ := hrel
    by_cases hlt : j < 8
    · have q0 : (0 : Int) ≤ 56 - 8 * (j : Int) := by omega
      have hbz := hB.out.size
      have hju : j < (be8 (n * 8)).length := by rw [be8_len]; exact hlt
      have HB8 : Hid ((be8 (n * 8)).take (j + 1) = (be8 (n * 8)).take j ++ [UInt8.ofNat (n * 8 / 2 ^ (56 - 8 * j) % 256)]) := by
        unfold RowKit.Hid
        rw [List.take_succ_eq_append_getElem hju, be8_at]
      have HV : Hid ((n : Int) * 8 / 2 ^ (56 - 8 * j) % 256 = ((UInt8.ofNat (n * 8 / 2 ^ (56 - 8 * j) % 256)).toNat : Int)) := by
        unfold RowKit.Hid
        have e : (n : Int) * 8 / 2 ^ (56 - 8 * j) = ((n * 8 / 2 ^ (56 - 8 * j) : Nat) : Int) := by simp
        rw [e]
        generalize n * 8 / 2 ^ (56 - 8 * j) = q
        rw [UInt8.toNat_ofNat']
        omega
      go_wp2_with ((at_builtin; refine wpList_append_own _ rfl _ _ 22 rfl w.heap.size 5 i0 (.int .u8 0) 1 1 Try.underlying22 hi hi0 hi1 hi2 rfl (by decide) _ _ _ rfl (hO.out.alloc _) ⟨wr.heap.size, 0, none⟩ 1 1 [.int .u8 ((n : Int) * 8 / 2 ^ (56 - 8 * j) % 256)] rfl rfl ?k1 ?k2 ?k3 ?k4 ?k5 ?_))
      case k1 => exact cells_new _ _ _ _ rfl
      case k2 => intro u hu; rw [List.mem_singleton] at hu; subst hu; rfl
      case k3 => unfold maxLen; omega
      case k4 => omega
      case k5 => simp; omega
      intro v' w3 hown3 hgrow _
      have HB3 : Hid (Below w.heap.size w w3) := (hB.out.alloc hbz _).grown hgrow (by simp; omega) (fun b hb => (hO.out.lt b hb).1)
      have hcell : bcells ((128 :: List.replicate (zeros n) 0) ++ (be8 (n * 8)).take (j + 1)) = bcells ((128 :: List.replicate (zeros n) 0) ++ (be8 (n * 8)).take j) ++ [.int .u8 ((n : Int) * 8 / 2 ^ (56 - 8 * j) % 256)] := by
        rw [HB8.out, ← List.append_assoc, bcells_append _ [_], HV.out]
        rfl
      have HO3 : Hid (w3.ownsRow w.heap.size 5 1 v' (L + (j + 1)) (bcells ((128 :: List.replicate (zeros n) 0) ++ (be8 (n * 8)).take (j + 1)))) := by
        unfold RowKit.Hid
        rw [hcell]
        exact hown3
      clear hown3 hgrow hcell
      go_wp2_with fail
      go_roundw
      case rel => exact ⟨j + 1, by omega, by go_num, HO3, HB3⟩
      case measure => simp [intOf]; omega
    · obtain rfl : j = 8 := by omega
      have HF : Hid (L + 8 = (padOf n).length) := by
        unfold RowKit.Hid padOf
        rw [HL.out, List.length_append, be8_len, List.length_cons, List.length_replicate]
      have h8 := hO.out
      rw [List.take_of_length_le (by rw [be8_len]; omega), HF.out] at h8
      have H8 := Lib.hid h8
      clear h8
      go_wp2_with fail
      go_ret2
      exact ⟨_, rfl, H8.out, hB.out⟩
end Go.Proofs.Ytofjfpnkdcpngaa
