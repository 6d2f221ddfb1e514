/-
  Numbers of 32 bits: the turns and shifts of the package sha and of its reference.
-/
import Derived.Test.YtofjfpnkdcpngaaOpenB
import Derived.Test.YtofjfpnkdcpngaaShaPlain
import Derived.BigQuiet
import Derived.Deep.QuietTactic
import Derived.Deep.RegionHeld3
import Derived.Laws.Tables
namespace Go.Proofs.Ytofjfpnkdcpngaa
open Go.RowKit Mem

theorem ret_int {k : IntKind} {a b : Int} (h : b = a) : Ending.returned (.int k a) = .returned (.int k b) := by rw [h]
theorem same_right {P : Program} {f : FuncId} {args : Array Value} {w : World} {v : Value} (h : Calls P f args w fun e w' => e = .returned v ∧ w = w') : Calls P f args w fun e w' => e = .returned v ∧ w' = w :=
  h.mono fun _ _ ⟨a, b⟩ => ⟨a, b.symm⟩
theorem u_add (x y : UInt32) : ((x.toNat : Int) + (y.toNat : Int)) % 4294967296 = ((x + y).toNat : Int) := by
  rw [UInt32.toNat_add]; omega
theorem u_addw (x y : UInt32) : IntKind.u32.wrap ((x.toNat : Int) + (y.toNat : Int)) = ((x + y).toNat : Int) := by
  rw [IntKind.wrap_u32']; exact u_add x y
theorem u_xor (x y : UInt32) : bits .xor .u32 (x.toNat : Int) (y.toNat : Int) = ((x ^^^ y).toNat : Int) := by
  rw [u32_xor_nat _ _ x.toNat_lt y.toNat_lt, UInt32.toNat_xor]
theorem u_and (x y : UInt32) : bits .and .u32 (x.toNat : Int) (y.toNat : Int) = ((x &&& y).toNat : Int) := by
  rw [u32_and_nat _ _ x.toNat_lt y.toNat_lt, UInt32.toNat_and]
theorem u_or (x y : UInt32) : bits .or .u32 (x.toNat : Int) (y.toNat : Int) = ((x ||| y).toNat : Int) := by
  rw [u32_or_nat _ _ x.toNat_lt y.toNat_lt, UInt32.toNat_or]
theorem u_div (x : UInt32) (n : Nat) : (x.toNat : Int) / (n : Int) = ((UInt32.ofNat (x.toNat / n)).toNat : Int) := by
  have := x.toNat_lt
  have h := Nat.div_le_self x.toNat n
  rw [UInt32.toNat_ofNat', Nat.mod_eq_of_lt (by omega)]
  simp
theorem u_div8 (x : UInt32) : (x.toNat : Int) / 8 = ((UInt32.ofNat (x.toNat / 8)).toNat : Int) := u_div x 8
theorem u_div1024 (x : UInt32) : (x.toNat : Int) / 1024 = ((UInt32.ofNat (x.toNat / 1024)).toNat : Int) := u_div x 1024
theorem u_mod (x : UInt32) : (x.toNat : Int) % 4294967296 = (x.toNat : Int) := by have := x.toNat_lt; omega
theorem u_div8m (x : UInt32) : (x.toNat : Int) / 8 % 4294967296 = ((UInt32.ofNat (x.toNat / 8)).toNat : Int) := by rw [u_div8, u_mod]
theorem u_div1024m (x : UInt32) : (x.toNat : Int) / 1024 % 4294967296 = ((UInt32.ofNat (x.toNat / 1024)).toNat : Int) := by rw [u_div1024, u_mod]
theorem ror_or (x : UInt32) (n m : Nat) (h : n + m = 32) (hn : 0 < n) : bits .or .u32 ((x.toNat : Int) * ((2 ^ m : Nat) : Int) % 4294967296) ((x.toNat : Int) / ((2 ^ n : Nat) : Int)) = ((Sh.ror n x).toNat : Int) := by
  have hx := x.toNat_lt
  have hp : 2 ^ n * 2 ^ m = 4294967296 := by rw [← Nat.pow_add, h]
  have e1 : (x.toNat : Int) * ((2 ^ m : Nat) : Int) % 4294967296 = ((x.toNat % 2 ^ n * 2 ^ m : Nat) : Int) := by
    have : x.toNat * 2 ^ m % (2 ^ n * 2 ^ m) = x.toNat % 2 ^ n * 2 ^ m := Nat.mul_mod_mul_right _ _ _
    rw [← this, hp]
    simp
  have e2 : (x.toNat : Int) / ((2 ^ n : Nat) : Int) = ((x.toNat / 2 ^ n : Nat) : Int) := by simp
  have hd : x.toNat / 2 ^ n < 2 ^ m := by
    rw [Nat.div_lt_iff_lt_mul (Nat.two_pow_pos n), Nat.mul_comm, hp]
    exact hx
  have hl := Sh.ror_lt n (by omega) x
  rw [show 32 - n = m by omega] at hl
  rw [e1, e2, u32_or_nat _ _ (by omega) (by omega), nat_join m _ _ (Nat.mul_mod_left _ _) hd, Sh.ror_toNat _ (by omega), Int.toNat_natCast, show 32 - n = m by omega, Nat.add_comm]
set_option maxHeartbeats 400000 in
theorem sharight2 (x : UInt32) (w : World) :
    Calls Try.prog 41 #[.int .u32 (x.toNat : Int), .int .i64 2] w fun e w' => e = .returned (.int .u32 ((Sh.ror 2 x).toNat : Int)) ∧ w = w' := by
  have he : bits .and .u64 (IntKind.u64.wrap (-2)) 31 = 30 := by decide +kernel
  have hr := Lib.hid (ror_or x 2 30 rfl (by decide))
  go_enter Try.func41, Try.ntmps41
  go_wp2
  go_ret
  exact ⟨ret_int (by simpa using hr.out.symm), rfl⟩
set_option maxHeartbeats 400000 in
theorem sharight6 (x : UInt32) (w : World) :
    Calls Try.prog 41 #[.int .u32 (x.toNat : Int), .int .i64 6] w fun e w' => e = .returned (.int .u32 ((Sh.ror 6 x).toNat : Int)) ∧ w = w' := by
  have he : bits .and .u64 (IntKind.u64.wrap (-6)) 31 = 26 := by decide +kernel
  have hr := Lib.hid (ror_or x 6 26 rfl (by decide))
  go_enter Try.func41, Try.ntmps41
  go_wp2
  go_ret
  exact ⟨ret_int (by simpa using hr.out.symm), rfl⟩
set_option maxHeartbeats 400000 in
theorem sharight7 (x : UInt32) (w : World) :
    Calls Try.prog 41 #[.int .u32 (x.toNat : Int), .int .i64 7] w fun e w' => e = .returned (.int .u32 ((Sh.ror 7 x).toNat : Int)) ∧ w = w' := by
  have he : bits .and .u64 (IntKind.u64.wrap (-7)) 31 = 25 := by decide +kernel
  have hr := Lib.hid (ror_or x 7 25 rfl (by decide))
  go_enter Try.func41, Try.ntmps41
  go_wp2
  go_ret
  exact ⟨ret_int (by simpa using hr.out.symm), rfl⟩
set_option maxHeartbeats 400000 in
theorem sharight11 (x : UInt32) (w : World) :
    Calls Try.prog 41 #[.int .u32 (x.toNat : Int), .int .i64 11] w fun e w' => e = .returned (.int .u32 ((Sh.ror 11 x).toNat : Int)) ∧ w = w' := by
  have he : bits .and .u64 (IntKind.u64.wrap (-11)) 31 = 21 := by decide +kernel
  have hr := Lib.hid (ror_or x 11 21 rfl (by decide))
  go_enter Try.func41, Try.ntmps41
  go_wp2
  go_ret
  exact ⟨ret_int (by simpa using hr.out.symm), rfl⟩
set_option maxHeartbeats 400000 in
theorem sharight13 (x : UInt32) (w : World) :
    Calls Try.prog 41 #[.int .u32 (x.toNat : Int), .int .i64 13] w fun e w' => e = .returned (.int .u32 ((Sh.ror 13 x).toNat : Int)) ∧ w = w' := by
  have he : bits .and .u64 (IntKind.u64.wrap (-13)) 31 = 19 := by decide +kernel
  have hr := Lib.hid (ror_or x 13 19 rfl (by decide))
  go_enter Try.func41, Try.ntmps41
  go_wp2
  go_ret
  exact ⟨ret_int (by simpa using hr.out.symm), rfl⟩
set_option maxHeartbeats 400000 in
theorem sharight17 (x : UInt32) (w : World) :
    Calls Try.prog 41 #[.int .u32 (x.toNat : Int), .int .i64 17] w fun e w' => e = .returned (.int .u32 ((Sh.ror 17 x).toNat : Int)) ∧ w = w' := by
  have he : bits .and .u64 (IntKind.u64.wrap (-17)) 31 = 15 := by decide +kernel
  have hr := Lib.hid (ror_or x 17 15 rfl (by decide))
  go_enter Try.func41, Try.ntmps41
  go_wp2
  go_ret
  exact ⟨ret_int (by simpa using hr.out.symm), rfl⟩
set_option maxHeartbeats 400000 in
theorem sharight18 (x : UInt32) (w : World) :
    Calls Try.prog 41 #[.int .u32 (x.toNat : Int), .int .i64 18] w fun e w' => e = .returned (.int .u32 ((Sh.ror 18 x).toNat : Int)) ∧ w = w' := by
  have he : bits .and .u64 (IntKind.u64.wrap (-18)) 31 = 14 := by decide +kernel
  have hr := Lib.hid (ror_or x 18 14 rfl (by decide))
  go_enter Try.func41, Try.ntmps41
  go_wp2
  go_ret
  exact ⟨ret_int (by simpa using hr.out.symm), rfl⟩
set_option maxHeartbeats 400000 in
theorem sharight19 (x : UInt32) (w : World) :
    Calls Try.prog 41 #[.int .u32 (x.toNat : Int), .int .i64 19] w fun e w' => e = .returned (.int .u32 ((Sh.ror 19 x).toNat : Int)) ∧ w = w' := by
  have he : bits .and .u64 (IntKind.u64.wrap (-19)) 31 = 13 := by decide +kernel
  have hr := Lib.hid (ror_or x 19 13 rfl (by decide))
  go_enter Try.func41, Try.ntmps41
  go_wp2
  go_ret
  exact ⟨ret_int (by simpa using hr.out.symm), rfl⟩
set_option maxHeartbeats 400000 in
theorem sharight22 (x : UInt32) (w : World) :
    Calls Try.prog 41 #[.int .u32 (x.toNat : Int), .int .i64 22] w fun e w' => e = .returned (.int .u32 ((Sh.ror 22 x).toNat : Int)) ∧ w = w' := by
  have he : bits .and .u64 (IntKind.u64.wrap (-22)) 31 = 10 := by decide +kernel
  have hr := Lib.hid (ror_or x 22 10 rfl (by decide))
  go_enter Try.func41, Try.ntmps41
  go_wp2
  go_ret
  exact ⟨ret_int (by simpa using hr.out.symm), rfl⟩
set_option maxHeartbeats 400000 in
theorem sharight25 (x : UInt32) (w : World) :
    Calls Try.prog 41 #[.int .u32 (x.toNat : Int), .int .i64 25] w fun e w' => e = .returned (.int .u32 ((Sh.ror 25 x).toNat : Int)) ∧ w = w' := by
  have he : bits .and .u64 (IntKind.u64.wrap (-25)) 31 = 7 := by decide +kernel
  have hr := Lib.hid (ror_or x 25 7 rfl (by decide))
  go_enter Try.func41, Try.ntmps41
  go_wp2
  go_ret
  exact ⟨ret_int (by simpa using hr.out.symm), rfl⟩
theorem sharight (x : UInt32) (n : Int) (hn : n = 2 ∨ n = 6 ∨ n = 7 ∨ n = 11 ∨ n = 13 ∨ n = 17 ∨ n = 18 ∨ n = 19 ∨ n = 22 ∨ n = 25) (w : World) :
    Calls Try.prog 41 #[.int .u32 (x.toNat : Int), .int .i64 n] w fun e w' => e = .returned (.int .u32 ((Sh.ror n x).toNat : Int)) ∧ w = w' := by
  rcases hn with rfl | rfl | rfl | rfl | rfl | rfl | rfl | rfl | rfl | rfl
  · exact sharight2 x w
  · exact sharight6 x w
  · exact sharight7 x w
  · exact sharight11 x w
  · exact sharight13 x w
  · exact sharight17 x w
  · exact sharight18 x w
  · exact sharight19 x w
  · exact sharight22 x w
  · exact sharight25 x w
set_option maxHeartbeats 400000 in
theorem refturned (x : UInt32) (n : Nat) (hn : n ≤ 32) (w : World) :
    Calls Try.prog 38 #[.int .u32 (x.toNat : Int), .int .i64 n] w fun e w' => e = .returned (.int .u32 ((Sh.ror n x).toNat : Int)) ∧ w = w' := by
  have H0 := Lib.hid (Sh.ror_zero x)
  have HS := Lib.hid (fun k hk => Sh.ror_succ k hk x)
  go_enter Try.func38, Try.ntmps38
  go_wp2_with fail
  go_loop [0, 5] (fun v i => ∃ k : Nat, k ≤ n ∧ i = .int .i64 k ∧ v = .int .u32 ((Sh.ror k x).toNat : Int)) (fun _ i => n - (intOf i).toNat)
  case atStart => exact ⟨0, Nat.zero_le _, rfl, by rw [show ((0 : Nat) : Int) = 0 from rfl, H0.out]⟩
  case round =>
    obtain ⟨k, hk, rfl, rfl⟩ := hrel
    by_cases hlt : k < n
    · have hs := Lib.hid (HS.out k (by omega))
      have hb := (Sh.ror k x).toNat_lt
      have hb2 := (Sh.ror ((k + 1 : Nat) : Int) x).toNat_lt
      generalize hp : (Sh.ror k x).toNat = p at *
      have q0 : (0 : Int) ≤ p := by omega
      have q1 : (p : Int) ≤ 4294967295 := by omega
      have HP := Lib.hid hp
      have HB := Lib.hid hb
      have HB2 := Lib.hid hb2
      clear hp hb hb2
      go_wp2_with fail
      go_round
      case rel => exact ⟨k + 1, by omega, by go_num, by rw [hs.out]; go_num⟩
      case measure => simp [intOf]; omega
    · obtain rfl : k = n := by omega
      go_wp2_with fail
      go_ret
      exact ⟨rfl, rfl⟩
theorem shr_toNat (x : UInt32) (k : Nat) : (UInt32.ofNat (x.toNat / 2 ^ k)).toNat = x.toNat / 2 ^ k := by
  have := x.toNat_lt
  have h := Nat.div_le_self x.toNat (2 ^ k)
  rw [UInt32.toNat_ofNat', Nat.mod_eq_of_lt (by omega)]
set_option maxHeartbeats 400000 in
theorem refshifted (x : UInt32) (n : Nat) (hn : n ≤ 32) (w : World) :
    Calls Try.prog 34 #[.int .u32 (x.toNat : Int), .int .i64 n] w fun e w' => e = .returned (.int .u32 ((UInt32.ofNat (x.toNat / 2 ^ n)).toNat : Int)) ∧ w = w' := by
  rw [shr_toNat]
  have hx := x.toNat_lt
  generalize x.toNat = X at *
  have HX := Lib.hid hx
  clear hx
  go_enter Try.func34, Try.ntmps34
  go_wp2_with fail
  go_loop [0, 5] (fun v i => ∃ k : Nat, k ≤ n ∧ i = .int .i64 k ∧ v = .int .u32 ((X / 2 ^ k : Nat) : Int)) (fun _ i => n - (intOf i).toNat)
  case atStart => exact ⟨0, Nat.zero_le _, rfl, by simp⟩
  case round =>
    obtain ⟨k, hk, rfl, rfl⟩ := hrel
    by_cases hlt : k < n
    · have hs := Lib.hid (show X / 2 ^ (k + 1) = X / 2 ^ k / 2 by rw [Nat.pow_succ, Nat.div_div_eq_div_mul])
      have hb := Nat.div_le_self X (2 ^ k)
      have hx := HX.out
      generalize X / 2 ^ k = p at *
      have q0 : (0 : Int) ≤ p := by omega
      have q1 : (p : Int) ≤ 4294967295 := by omega
      clear hb hx
      go_wp2_with fail
      go_round
      case rel => exact ⟨k + 1, by omega, by go_num, by rw [hs.out]; go_num⟩
      case measure => simp [intOf]; omega
    · obtain rfl : k = n := by omega
      go_wp2_with fail
      go_ret
      exact ⟨rfl, rfl⟩
end Go.Proofs.Ytofjfpnkdcpngaa
