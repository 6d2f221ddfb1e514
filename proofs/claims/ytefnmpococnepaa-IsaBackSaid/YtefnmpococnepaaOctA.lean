/-
  A number at a place of bytes: the package octet and its reference.
-/
import Derived.Test.YtefnmpococnepaaIsaPlain
import Derived.Test.YtefnmpococnepaaByt
import Derived.Test.YtefnmpococnepaaRows
import Derived.WalkSpells
import Derived.WalkLawsBesides
import Derived.Handy
import Derived.Lib.Hide
import Derived.LoopTactic
import Derived.Laws.BitsAllLaws
namespace Go.Proofs.Ytefnmpococnepaa
open Go.RowKit

/-- the number at a place, and the error -/
def get (bs : List UInt8) (at_ wd : Int) : Nat × Int :=
  if wd < 1 ∨ 8 < wd ∨ at_ < 0 ∨ (bs.length : Int) < at_ then (0, 1)
  else if (bs.length : Int) - at_ < wd then (0, 2)
  else (Ia.unle ((bs.drop at_.toNat).take wd.toNat), 0)
theorem unle_snoc : ∀ (l : List UInt8) (c : UInt8), Ia.unle (l ++ [c]) = Ia.unle l + c.toNat * 256 ^ l.length
  | [], c => by simp [Ia.unle]
  | d :: l, c => by
    simp only [List.cons_append, Ia.unle, unle_snoc l c, List.length_cons, Nat.pow_succ]
    rw [Nat.mul_add, Nat.add_assoc]
    congr 2
    rw [Nat.mul_comm 256 (c.toNat * 256 ^ l.length), Nat.mul_assoc]
theorem take_drop_snoc (bs : List UInt8) (p k : Nat) (h : p + k < bs.length) : (bs.drop p).take (k + 1) = (bs.drop p).take k ++ [bs[p + k]'h] := by
  rw [List.take_succ_eq_append_getElem (by rw [List.length_drop]; omega)]
  simp
theorem or_place (U c k : Nat) (hk : k < 8) (hU : U < 256 ^ k) (hc : c < 256) : bits .or .u64 (U : Int) (IntKind.u64.wrap ((c : Int) * 2 ^ (8 * k))) = ((U + c * 256 ^ k : Nat) : Int) := by
  have e : (256 : Nat) ^ k = 2 ^ (8 * k) := by rw [Nat.pow_mul]
  have hcast : ((c : Int) * 2 ^ (8 * k)) = ((c * 2 ^ (8 * k) : Nat) : Int) := by simp
  have h1 : (2 : Nat) ^ (8 * k) ≤ 2 ^ 56 := Nat.pow_le_pow_right (by omega) (by omega)
  have h2 : c * 2 ^ (8 * k) ≤ 255 * 2 ^ 56 := Nat.mul_le_mul (by omega) h1
  rw [e] at hU ⊢
  have hw : IntKind.u64.wrap ((c * 2 ^ (8 * k) : Nat) : Int) = ((c * 2 ^ (8 * k) : Nat) : Int) := by
    generalize c * 2 ^ (8 * k) = X at h2 ⊢
    simp only [IntKind.wrap_u64]
    omega
  rw [hcast, hw, u64_or_nat _ _ (by omega) (by omega), Nat.or_comm, nat_join (8 * k) _ _ (by simp) hU, Nat.add_comm]
set_option maxHeartbeats 4000000 in
theorem octget_ok (bs : List UInt8) (A : Option Addr) (c : Nat) (p wd : Nat) (w : World) (hA : BytesAt w A bs) (hn : bs.length ≤ 9223372036854775807) (h1 : 1 ≤ wd) (h8 : wd ≤ 8) (hp : p + wd ≤ bs.length) :
    Calls Try.prog 29 #[.slice A bs.length c, .int .i64 p, .int .i64 wd] w fun e w' => e = .returned (.tuple #[.int .u64 (Ia.unle ((bs.drop p).take wd)), .int .i64 0]) ∧ w = w' := by
  have HA := Lib.hid hA
  clear hA
  go_enter Try.func29, Try.ntmps29
  go_wp2_with fail
  go_loop [8, 33] (fun n i => ∃ k : Nat, k ≤ wd ∧ i = .int .i64 k ∧ n = .int .u64 (Ia.unle ((bs.drop p).take k))) (fun _ i => wd - (intOf i).toNat)
  case atStart => exact ⟨0, Nat.zero_le _, rfl, rfl⟩
  case round =>
    obtain ⟨k, hk, rfl, rfl⟩ := hrel
    by_cases hlt : k < wd
    · have hpk : p + k < bs.length := by omega
      obtain ⟨b, off, rfl, c0⟩ := HA.out (p + k) hpk
      have hcb : ((bs[p + k]'hpk).toNat : Int) ≤ 255 := by have := (bs[p + k]'hpk).toNat_lt; omega
      have HU := Lib.hid (Ia.unle_lt ((bs.drop p).take k))
      have HS := Lib.hid (unle_snoc ((bs.drop p).take k) (bs[p + k]'hpk))
      rw [← take_drop_snoc bs p k hpk] at HS
      have hlk : ((bs.drop p).take k).length = k := by rw [List.length_take, List.length_drop]; omega
      rw [hlk] at HS HU
      have HO := Lib.hid (or_place _ _ k (by omega) HU.out (bs[p + k]'hpk).toNat_lt)
      clear hlk HU
      go_wp2_with fail
      go_round
      case rel => exact ⟨k + 1, by omega, by go_num, by rw [HS.out, HO.out]⟩
      case measure => simp [intOf]; omega
    · obtain rfl : k = wd := by omega
      go_wp2_with fail
      go_ret2
      exact ⟨rfl, rfl⟩
set_option maxHeartbeats 4000000 in
/-- the number at any place -/
theorem octget (bs : List UInt8) (A : Option Addr) (c : Nat) (a : Int) (wd : Nat) (w : World) (hA : BytesAt w A bs) (hn : bs.length ≤ 4611686018427387904) (h1 : 1 ≤ wd) (h8 : wd ≤ 8) (ha1 : -9223372036854775808 ≤ a) (ha2 : a ≤ 9223372036854775807) :
    Calls Try.prog 29 #[.slice A bs.length c, .int .i64 a, .int .i64 wd] w fun e w' => e = .returned (.tuple #[.int .u64 (get bs a wd).1, .int .i64 (get bs a wd).2]) ∧ w = w' := by
  by_cases hlo : a < 0
  · have e : get bs a wd = (0, 1) := by unfold get; rw [if_pos (by omega)]
    rw [e]
    clear hA
    go_enter Try.func29, Try.ntmps29
    go_wp2_with fail
    go_ret2
    exact ⟨rfl, rfl⟩
  · by_cases hhi : (bs.length : Int) < a
    · have e : get bs a wd = (0, 1) := by unfold get; rw [if_pos (by omega)]
      rw [e]
      clear hA
      go_enter Try.func29, Try.ntmps29
      go_wp2_with fail
      go_ret2
      exact ⟨rfl, rfl⟩
    · obtain ⟨p, rfl⟩ := Int.eq_ofNat_of_zero_le (show 0 ≤ a by omega)
      by_cases hsh : (bs.length : Int) - p < wd
      · have e : get bs p wd = (0, 2) := by unfold get; rw [if_neg (by omega), if_pos (by omega)]
        rw [e]
        clear hA
        go_enter Try.func29, Try.ntmps29
        go_wp2_with fail
        go_ret2
        exact ⟨rfl, rfl⟩
      · have e : get bs p wd = (Ia.unle ((bs.drop p).take wd), 0) := by unfold get; rw [if_neg (by omega), if_neg (by omega)]; rfl
        rw [e]
        exact octget_ok bs A c p wd w hA (by omega) h1 h8 (by omega)
theorem take_drop_first (bs : List UInt8) (p k wd : Nat) (hk : k < wd) (h : p + k < bs.length) : (bs.drop (p + k)).take (wd - k) = bs[p + k]'h :: (bs.drop (p + (k + 1))).take (wd - (k + 1)) := by
  rw [List.drop_eq_getElem_cons h, show wd - k = (wd - (k + 1)) + 1 by omega, List.take_succ_cons]
  rfl
set_option maxHeartbeats 4000000 in
theorem refget_ok (bs : List UInt8) (A : Option Addr) (c : Nat) (p wd : Nat) (w : World) (hA : BytesAt w A bs) (hn : bs.length ≤ 9223372036854775807) (h1 : 1 ≤ wd) (h8 : wd ≤ 8) (hp : p + wd ≤ bs.length) :
    Calls Try.prog 33 #[.slice A bs.length c, .int .i64 p, .int .i64 wd] w fun e w' => e = .returned (.tuple #[.int .u64 (Ia.unle ((bs.drop p).take wd)), .int .i64 0]) ∧ w = w' := by
  have HA := Lib.hid hA
  clear hA
  go_enter Try.func33, Try.ntmps33
  go_wp2_with fail
  go_loop [8, 9] (fun n i => ∃ k : Nat, k ≤ wd ∧ i = .int .i64 ((k : Int) - 1) ∧ n = .int .u64 (Ia.unle ((bs.drop (p + k)).take (wd - k)))) (fun _ i => (intOf i + 1).toNat)
  case atStart => exact ⟨wd, Nat.le_refl _, rfl, by simp [Ia.unle]⟩
  case round =>
    obtain ⟨k, hk, rfl, rfl⟩ := hrel
    rcases k with _ | k
    · go_wp2_with fail
      go_ret2
      exact ⟨rfl, rfl⟩
    · have hpk : p + k < bs.length := by omega
      obtain ⟨b, off, rfl, c0⟩ := HA.out (p + k) hpk
      have hcb : ((bs[p + k]'hpk).toNat : Int) ≤ 255 := by have := (bs[p + k]'hpk).toNat_lt; omega
      have hU : Ia.unle ((bs.drop (p + (k + 1))).take (wd - (k + 1))) < 256 ^ 7 := by
        refine Nat.lt_of_lt_of_le (Ia.unle_lt _) (Nat.pow_le_pow_right (by omega) ?_)
        rw [List.length_take]
        omega
      have hU2 : (Ia.unle ((bs.drop (p + (k + 1))).take (wd - (k + 1))) : Int) ≤ 72057594037927935 := by omega
      have hS : Ia.unle ((bs.drop (p + k)).take (wd - k)) = (bs[p + k]'hpk).toNat + 256 * Ia.unle ((bs.drop (p + (k + 1))).take (wd - (k + 1))) := by
        rw [take_drop_first bs p k wd (by omega) hpk]
        rfl
      have HS := Lib.hid hS
      clear hS hU
      have hk1 : ((k + 1 : Nat) : Int) - 1 = (k : Int) := by omega
      rw [hk1]
      clear hk1
      generalize Ia.unle ((bs.drop (p + (k + 1))).take (wd - (k + 1))) = U at *
      go_wp2_with fail
      go_round
      case rel => exact ⟨k, by omega, by go_num, by rw [HS.out]; go_num⟩
      case measure => simp [intOf]
set_option maxHeartbeats 4000000 in
theorem refget (bs : List UInt8) (A : Option Addr) (c : Nat) (a : Int) (wd : Nat) (w : World) (hA : BytesAt w A bs) (hn : bs.length ≤ 4611686018427387904) (h1 : 1 ≤ wd) (h8 : wd ≤ 8) (ha1 : -9223372036854775808 ≤ a) (ha2 : a ≤ 9223372036854775807) :
    Calls Try.prog 33 #[.slice A bs.length c, .int .i64 a, .int .i64 wd] w fun e w' => e = .returned (.tuple #[.int .u64 (get bs a wd).1, .int .i64 (get bs a wd).2]) ∧ w = w' := by
  by_cases hlo : a < 0
  · have e : get bs a wd = (0, 1) := by unfold get; rw [if_pos (by omega)]
    rw [e]
    clear hA
    go_enter Try.func33, Try.ntmps33
    go_wp2_with fail
    go_ret2
    exact ⟨rfl, rfl⟩
  · by_cases hhi : (bs.length : Int) < a
    · have e : get bs a wd = (0, 1) := by unfold get; rw [if_pos (by omega)]
      rw [e]
      clear hA
      go_enter Try.func33, Try.ntmps33
      go_wp2_with fail
      go_ret2
      exact ⟨rfl, rfl⟩
    · obtain ⟨p, rfl⟩ := Int.eq_ofNat_of_zero_le (show 0 ≤ a by omega)
      by_cases hsh : (bs.length : Int) - p < wd
      · have e : get bs p wd = (0, 2) := by unfold get; rw [if_neg (by omega), if_pos (by omega)]
        rw [e]
        clear hA
        go_enter Try.func33, Try.ntmps33
        go_wp2_with fail
        go_ret2
        exact ⟨rfl, rfl⟩
      · have e : get bs p wd = (Ia.unle ((bs.drop p).take wd), 0) := by unfold get; rw [if_neg (by omega), if_neg (by omega)]; rfl
        rw [e]
        exact refget_ok bs A c p wd w hA (by omega) h1 h8 (by omega)
end Go.Proofs.Ytefnmpococnepaa
