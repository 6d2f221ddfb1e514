/-
  The digest in plain Lean, over numbers of 32 bits. No program in sight.
  Numbers of 32 bits: the turns and shifts of the package sha and of its reference.
  The tables and the first state.
  An append onto a row of the call's own in a region that draws its order: the row's old cells are still read behind it.
-/
import Derived.Test.YtjhopgmionpkoaaBytes
import Derived.BigQuiet
import Derived.Deep.QuietTactic
import Derived.Deep.RegionHeld3
import Derived.Laws.Tables
import Derived.Test.YtjhopgmionpkoaaMem
import Derived.Maps.AppendAt
import Derived.Deep.AppendLies
import Derived.RegionTactic
import Derived.OwnWalk
namespace Go.Proofs.Ytjhopgmionpkoaa.Sh
set_option maxRecDepth 20000
abbrev W := UInt32
/-- x turned n places to the right -/
def ror (n : Int) (x : W) : W := UInt32.ofNat (x.toNat / 2 ^ n.toNat + x.toNat % 2 ^ n.toNat * 2 ^ (32 - n.toNat))
def sig0 (x : W) : W := ror 7 x ^^^ ror 18 x ^^^ UInt32.ofNat (x.toNat / 8)
def sig1 (x : W) : W := ror 17 x ^^^ ror 19 x ^^^ UInt32.ofNat (x.toNat / 1024)
def word (a b c d : UInt8) : W := UInt32.ofNat (((a.toNat * 256 + b.toNat) * 256 + c.toNat) * 256 + d.toNat)
def nextW (b : List UInt8) (l : List W) : W :=
  if l.length < 16 then word (b.getD (4 * l.length) 0) (b.getD (4 * l.length + 1) 0) (b.getD (4 * l.length + 2) 0) (b.getD (4 * l.length + 3) 0)
  else l.getD (l.length - 16) 0 + sig0 (l.getD (l.length - 15) 0) + l.getD (l.length - 7) 0 + sig1 (l.getD (l.length - 2) 0)
def sched (b : List UInt8) : Nat → List W
  | 0 => []
  | k + 1 => sched b k ++ [nextW b (sched b k)]
theorem sched_length (b : List UInt8) : ∀ k, (sched b k).length = k
  | 0 => rfl
  | k + 1 => by simp [sched, sched_length b k]
def ks : List W := [
  0x428a2f98, 0x71374491, 0xb5c0fbcf, 0xe9b5dba5, 0x3956c25b, 0x59f111f1, 0x923f82a4, 0xab1c5ed5,
  0xd807aa98, 0x12835b01, 0x243185be, 0x550c7dc3, 0x72be5d74, 0x80deb1fe, 0x9bdc06a7, 0xc19bf174,
  0xe49b69c1, 0xefbe4786, 0x0fc19dc6, 0x240ca1cc, 0x2de92c6f, 0x4a7484aa, 0x5cb0a9dc, 0x76f988da,
  0x983e5152, 0xa831c66d, 0xb00327c8, 0xbf597fc7, 0xc6e00bf3, 0xd5a79147, 0x06ca6351, 0x14292967,
  0x27b70a85, 0x2e1b2138, 0x4d2c6dfc, 0x53380d13, 0x650a7354, 0x766a0abb, 0x81c2c92e, 0x92722c85,
  0xa2bfe8a1, 0xa81a664b, 0xc24b8b70, 0xc76c51a3, 0xd192e819, 0xd6990624, 0xf40e3585, 0x106aa070,
  0x19a4c116, 0x1e376c08, 0x2748774c, 0x34b0bcb5, 0x391c0cb3, 0x4ed8aa4a, 0x5b9cca4f, 0x682e6ff3,
  0x748f82ee, 0x78a5636f, 0x84c87814, 0x8cc70208, 0x90befffa, 0xa4506ceb, 0xbef9a3f7, 0xc67178f2]
theorem ks_length : ks.length = 64 := by decide
structure St where
  a : W
  b : W
  c : W
  d : W
  e : W
  f : W
  g : W
  h : W
def first : St := ⟨0x6a09e667, 0xbb67ae85, 0x3c6ef372, 0xa54ff53a, 0x510e527f, 0x9b05688c, 0x1f83d9ab, 0x5be0cd19⟩
def t1 (s : St) (k w : W) : W := s.h + (ror 6 s.e ^^^ ror 11 s.e ^^^ ror 25 s.e) + ((s.e &&& s.f) ^^^ ((4294967295 - s.e) &&& s.g)) + k + w
def t2 (s : St) : W := (ror 2 s.a ^^^ ror 13 s.a ^^^ ror 22 s.a) + ((s.a &&& s.b) ^^^ (s.a &&& s.c) ^^^ (s.b &&& s.c))
def rnd (s : St) (k w : W) : St := ⟨t1 s k w + t2 s, s.a, s.b, s.c, s.d + t1 s k w, s.e, s.f, s.g⟩
def rnds (b : List UInt8) : Nat → St → St
  | 0, s => s
  | n + 1, s => rnd (rnds b n s) (ks.getD n 0) ((sched b 64).getD n 0)
def plus (s v : St) : St := ⟨v.a + s.a, v.b + s.b, v.c + s.c, v.d + s.d, v.e + s.e, v.f + s.f, v.g + s.g, v.h + s.h⟩
/-- the state behind a block -/
def step (s : St) (b : List UInt8) : St := plus s (rnds b 64 s)
def stL (s : St) : List W := [s.a, s.b, s.c, s.d, s.e, s.f, s.g, s.h]
theorem ch_or (e f g : W) : (e &&& f) ^^^ ((4294967295 - e) &&& g) = (e &&& f) ||| ((4294967295 - e) &&& g) := by
  have h : (4294967295 : W) - e = ~~~e := by
    apply UInt32.toBitVec_inj.1
    simp only [UInt32.toBitVec_sub, UInt32.toBitVec_not]
    show (BitVec.allOnes 32) - e.toBitVec = ~~~e.toBitVec
    rw [BitVec.allOnes_sub_eq_not]
  rw [h]
  apply UInt32.toBitVec_inj.1
  simp only [UInt32.toBitVec_xor, UInt32.toBitVec_or, UInt32.toBitVec_and, UInt32.toBitVec_not]
  generalize e.toBitVec = x
  generalize f.toBitVec = y
  generalize g.toBitVec = z
  ext i hi
  simp only [BitVec.getElem_xor, BitVec.getElem_or, BitVec.getElem_and, BitVec.getElem_not]
  cases x[i] <;> cases y[i] <;> cases z[i] <;> rfl
theorem maj_or (a b c : W) : (a &&& b) ^^^ (a &&& c) ^^^ (b &&& c) = (a &&& b) ||| (a &&& c) ||| (b &&& c) := by
  apply UInt32.toBitVec_inj.1
  simp only [UInt32.toBitVec_xor, UInt32.toBitVec_or, UInt32.toBitVec_and]
  generalize a.toBitVec = x
  generalize b.toBitVec = y
  generalize c.toBitVec = z
  ext i hi
  simp only [BitVec.getElem_xor, BitVec.getElem_or, BitVec.getElem_and]
  cases x[i] <;> cases y[i] <;> cases z[i] <;> rfl
theorem ror_lt (n : Nat) (hn : n ≤ 32) (x : W) : x.toNat / 2 ^ n + x.toNat % 2 ^ n * 2 ^ (32 - n) < 4294967296 := by
  have hx := x.toNat_lt
  have h1 : x.toNat / 2 ^ n < 2 ^ (32 - n) := by
    rw [Nat.div_lt_iff_lt_mul (Nat.two_pow_pos n), ← Nat.pow_add, Nat.sub_add_cancel hn]
    exact hx
  have h2 : x.toNat % 2 ^ n < 2 ^ n := Nat.mod_lt _ (Nat.two_pow_pos n)
  have h3 : x.toNat % 2 ^ n * 2 ^ (32 - n) + 2 ^ (32 - n) ≤ 2 ^ n * 2 ^ (32 - n) := by
    rw [← Nat.succ_mul]
    exact Nat.mul_le_mul_right _ h2
  have h4 : 2 ^ n * 2 ^ (32 - n) = 4294967296 := by rw [← Nat.pow_add, Nat.add_sub_cancel' hn]
  omega
theorem ror_toNat (n : Int) (hn : n.toNat ≤ 32) (x : W) : (ror n x).toNat = x.toNat / 2 ^ n.toNat + x.toNat % 2 ^ n.toNat * 2 ^ (32 - n.toNat) := by
  unfold ror
  rw [UInt32.toNat_ofNat']
  exact Nat.mod_eq_of_lt (ror_lt _ hn x)
theorem ror_zero (x : W) : (ror 0 x).toNat = x.toNat := by
  rw [ror_toNat 0 (by decide)]
  simp [Nat.mod_one]
/-- one place more -/
theorem ror_succ (k : Nat) (hk : k < 32) (x : W) : (ror (k + 1 : Nat) x).toNat = (ror k x).toNat / 2 + (ror k x).toNat % 2 * 2147483648 := by
  rw [ror_toNat _ (by omega), ror_toNat _ (by omega), Int.toNat_natCast, Int.toNat_natCast]
  have e : 2 ^ (32 - k) = 2 * 2 ^ (31 - k) := by rw [show 32 - k = (31 - k) + 1 by omega, Nat.pow_succ']
  have e2 : 32 - (k + 1) = 31 - k := by omega
  have e3 : 2 ^ k * 2 ^ (31 - k) = 2147483648 := by rw [← Nat.pow_add, show k + (31 - k) = 31 by omega]
  rw [e2, e, Nat.pow_succ, ← Nat.div_div_eq_div_mul, Nat.mod_mul, Nat.add_mul]
  have e4 : 2 ^ k * (x.toNat / 2 ^ k % 2) * 2 ^ (31 - k) = x.toNat / 2 ^ k % 2 * 2147483648 := by
    rw [Nat.mul_comm (2 ^ k), Nat.mul_assoc, e3]
  rw [e4]
  have e5 : x.toNat % 2 ^ k * (2 * 2 ^ (31 - k)) = 2 * (x.toNat % 2 ^ k * 2 ^ (31 - k)) := by
    rw [← Nat.mul_assoc, Nat.mul_comm _ 2, Nat.mul_assoc]
  rw [e5]
  omega
end Go.Proofs.Ytjhopgmionpkoaa.Sh
namespace Go.Proofs.Ytjhopgmionpkoaa
set_option maxRecDepth 20000
open Go.RowKit Mem

theorem ret_int5 {k : IntKind} {a b : Int} (h : b = a) : Ending.returned (.int k a) = .returned (.int k b) := by rw [h]
theorem same_right5 {P : Program} {f : FuncId} {args : Array Value} {w : World} {v : Value} (h : Calls P f args w fun e w' => e = .returned v ∧ w = w') : Calls P f args w fun e w' => e = .returned v ∧ w' = w :=
  h.mono fun _ _ ⟨a, b⟩ => ⟨a, b.symm⟩
theorem u_add (x y : UInt32) : ((x.toNat : Int) + (y.toNat : Int)) % 4294967296 = ((x + y).toNat : Int) := by
  rw [UInt32.toNat_add]; omega
theorem u_addw (x y : UInt32) : IntKind.u32.wrap ((x.toNat : Int) + (y.toNat : Int)) = ((x + y).toNat : Int) := by
  rw [IntKind.wrap_u32']; exact u_add x y
theorem u_xor (x y : UInt32) : bits .xor .u32 (x.toNat : Int) (y.toNat : Int) = ((x ^^^ y).toNat : Int) := by
  rw [u32_xor_nat _ _ x.toNat_lt y.toNat_lt, UInt32.toNat_xor]
theorem u_and (x y : UInt32) : bits .and .u32 (x.toNat : Int) (y.toNat : Int) = ((x &&& y).toNat : Int) := by
  rw [u32_and_nat _ _ x.toNat_lt y.toNat_lt, UInt32.toNat_and]
theorem u_or (x y : UInt32) : bits .or .u32 (x.toNat : Int) (y.toNat : Int) = ((x ||| y).toNat : Int) := by
  rw [u32_or_nat _ _ x.toNat_lt y.toNat_lt, UInt32.toNat_or]
theorem u_div (x : UInt32) (n : Nat) : (x.toNat : Int) / (n : Int) = ((UInt32.ofNat (x.toNat / n)).toNat : Int) := by
  have := x.toNat_lt
  have h := Nat.div_le_self x.toNat n
  rw [UInt32.toNat_ofNat', Nat.mod_eq_of_lt (by omega)]
  simp
theorem u_div8 (x : UInt32) : (x.toNat : Int) / 8 = ((UInt32.ofNat (x.toNat / 8)).toNat : Int) := u_div x 8
theorem u_div1024 (x : UInt32) : (x.toNat : Int) / 1024 = ((UInt32.ofNat (x.toNat / 1024)).toNat : Int) := u_div x 1024
theorem u_mod (x : UInt32) : (x.toNat : Int) % 4294967296 = (x.toNat : Int) := by have := x.toNat_lt; omega
theorem u_div8m (x : UInt32) : (x.toNat : Int) / 8 % 4294967296 = ((UInt32.ofNat (x.toNat / 8)).toNat : Int) := by rw [u_div8, u_mod]
theorem u_div1024m (x : UInt32) : (x.toNat : Int) / 1024 % 4294967296 = ((UInt32.ofNat (x.toNat / 1024)).toNat : Int) := by rw [u_div1024, u_mod]
theorem ror_or (x : UInt32) (n m : Nat) (h : n + m = 32) (hn : 0 < n) : bits .or .u32 ((x.toNat : Int) * ((2 ^ m : Nat) : Int) % 4294967296) ((x.toNat : Int) / ((2 ^ n : Nat) : Int)) = ((Sh.ror n x).toNat : Int) := by
  have hx := x.toNat_lt
  have hp : 2 ^ n * 2 ^ m = 4294967296 := by rw [← Nat.pow_add, h]
  have e1 : (x.toNat : Int) * ((2 ^ m : Nat) : Int) % 4294967296 = ((x.toNat % 2 ^ n * 2 ^ m : Nat) : Int) := by
    have : x.toNat * 2 ^ m % (2 ^ n * 2 ^ m) = x.toNat % 2 ^ n * 2 ^ m := Nat.mul_mod_mul_right _ _ _
    rw [← this, hp]
    simp
  have e2 : (x.toNat : Int) / ((2 ^ n : Nat) : Int) = ((x.toNat / 2 ^ n : Nat) : Int) := by simp
  have hd : x.toNat / 2 ^ n < 2 ^ m := by
    rw [Nat.div_lt_iff_lt_mul (Nat.two_pow_pos n), Nat.mul_comm, hp]
    exact hx
  have hl := Sh.ror_lt n (by omega) x
  rw [show 32 - n = m by omega] at hl
  rw [e1, e2, u32_or_nat _ _ (by omega) (by omega), nat_join m _ _ (Nat.mul_mod_left _ _) hd, Sh.ror_toNat _ (by omega), Int.toNat_natCast, show 32 - n = m by omega, Nat.add_comm]
set_option maxHeartbeats 400000 in
theorem sharight2 (x : UInt32) (w : World) :
    Calls Try.prog 106 #[.int .u32 (x.toNat : Int), .int .i64 2] w fun e w' => e = .returned (.int .u32 ((Sh.ror 2 x).toNat : Int)) ∧ w = w' := by
  have he : bits .and .u64 (IntKind.u64.wrap (-2)) 31 = 30 := by decide +kernel
  have hr := Lib.hid (ror_or x 2 30 rfl (by decide))
  go_enter Try.func106, Try.ntmps106
  go_wp2
  go_ret
  exact ⟨ret_int5 (by simpa using hr.out.symm), rfl⟩
set_option maxHeartbeats 400000 in
theorem sharight6 (x : UInt32) (w : World) :
    Calls Try.prog 106 #[.int .u32 (x.toNat : Int), .int .i64 6] w fun e w' => e = .returned (.int .u32 ((Sh.ror 6 x).toNat : Int)) ∧ w = w' := by
  have he : bits .and .u64 (IntKind.u64.wrap (-6)) 31 = 26 := by decide +kernel
  have hr := Lib.hid (ror_or x 6 26 rfl (by decide))
  go_enter Try.func106, Try.ntmps106
  go_wp2
  go_ret
  exact ⟨ret_int5 (by simpa using hr.out.symm), rfl⟩
set_option maxHeartbeats 400000 in
theorem sharight7 (x : UInt32) (w : World) :
    Calls Try.prog 106 #[.int .u32 (x.toNat : Int), .int .i64 7] w fun e w' => e = .returned (.int .u32 ((Sh.ror 7 x).toNat : Int)) ∧ w = w' := by
  have he : bits .and .u64 (IntKind.u64.wrap (-7)) 31 = 25 := by decide +kernel
  have hr := Lib.hid (ror_or x 7 25 rfl (by decide))
  go_enter Try.func106, Try.ntmps106
  go_wp2
  go_ret
  exact ⟨ret_int5 (by simpa using hr.out.symm), rfl⟩
set_option maxHeartbeats 400000 in
theorem sharight11 (x : UInt32) (w : World) :
    Calls Try.prog 106 #[.int .u32 (x.toNat : Int), .int .i64 11] w fun e w' => e = .returned (.int .u32 ((Sh.ror 11 x).toNat : Int)) ∧ w = w' := by
  have he : bits .and .u64 (IntKind.u64.wrap (-11)) 31 = 21 := by decide +kernel
  have hr := Lib.hid (ror_or x 11 21 rfl (by decide))
  go_enter Try.func106, Try.ntmps106
  go_wp2
  go_ret
  exact ⟨ret_int5 (by simpa using hr.out.symm), rfl⟩
set_option maxHeartbeats 400000 in
theorem sharight13 (x : UInt32) (w : World) :
    Calls Try.prog 106 #[.int .u32 (x.toNat : Int), .int .i64 13] w fun e w' => e = .returned (.int .u32 ((Sh.ror 13 x).toNat : Int)) ∧ w = w' := by
  have he : bits .and .u64 (IntKind.u64.wrap (-13)) 31 = 19 := by decide +kernel
  have hr := Lib.hid (ror_or x 13 19 rfl (by decide))
  go_enter Try.func106, Try.ntmps106
  go_wp2
  go_ret
  exact ⟨ret_int5 (by simpa using hr.out.symm), rfl⟩
set_option maxHeartbeats 400000 in
theorem sharight17 (x : UInt32) (w : World) :
    Calls Try.prog 106 #[.int .u32 (x.toNat : Int), .int .i64 17] w fun e w' => e = .returned (.int .u32 ((Sh.ror 17 x).toNat : Int)) ∧ w = w' := by
  have he : bits .and .u64 (IntKind.u64.wrap (-17)) 31 = 15 := by decide +kernel
  have hr := Lib.hid (ror_or x 17 15 rfl (by decide))
  go_enter Try.func106, Try.ntmps106
  go_wp2
  go_ret
  exact ⟨ret_int5 (by simpa using hr.out.symm), rfl⟩
set_option maxHeartbeats 400000 in
theorem sharight18 (x : UInt32) (w : World) :
    Calls Try.prog 106 #[.int .u32 (x.toNat : Int), .int .i64 18] w fun e w' => e = .returned (.int .u32 ((Sh.ror 18 x).toNat : Int)) ∧ w = w' := by
  have he : bits .and .u64 (IntKind.u64.wrap (-18)) 31 = 14 := by decide +kernel
  have hr := Lib.hid (ror_or x 18 14 rfl (by decide))
  go_enter Try.func106, Try.ntmps106
  go_wp2
  go_ret
  exact ⟨ret_int5 (by simpa using hr.out.symm), rfl⟩
set_option maxHeartbeats 400000 in
theorem sharight19 (x : UInt32) (w : World) :
    Calls Try.prog 106 #[.int .u32 (x.toNat : Int), .int .i64 19] w fun e w' => e = .returned (.int .u32 ((Sh.ror 19 x).toNat : Int)) ∧ w = w' := by
  have he : bits .and .u64 (IntKind.u64.wrap (-19)) 31 = 13 := by decide +kernel
  have hr := Lib.hid (ror_or x 19 13 rfl (by decide))
  go_enter Try.func106, Try.ntmps106
  go_wp2
  go_ret
  exact ⟨ret_int5 (by simpa using hr.out.symm), rfl⟩
set_option maxHeartbeats 400000 in
theorem sharight22 (x : UInt32) (w : World) :
    Calls Try.prog 106 #[.int .u32 (x.toNat : Int), .int .i64 22] w fun e w' => e = .returned (.int .u32 ((Sh.ror 22 x).toNat : Int)) ∧ w = w' := by
  have he : bits .and .u64 (IntKind.u64.wrap (-22)) 31 = 10 := by decide +kernel
  have hr := Lib.hid (ror_or x 22 10 rfl (by decide))
  go_enter Try.func106, Try.ntmps106
  go_wp2
  go_ret
  exact ⟨ret_int5 (by simpa using hr.out.symm), rfl⟩
set_option maxHeartbeats 400000 in
theorem sharight25 (x : UInt32) (w : World) :
    Calls Try.prog 106 #[.int .u32 (x.toNat : Int), .int .i64 25] w fun e w' => e = .returned (.int .u32 ((Sh.ror 25 x).toNat : Int)) ∧ w = w' := by
  have he : bits .and .u64 (IntKind.u64.wrap (-25)) 31 = 7 := by decide +kernel
  have hr := Lib.hid (ror_or x 25 7 rfl (by decide))
  go_enter Try.func106, Try.ntmps106
  go_wp2
  go_ret
  exact ⟨ret_int5 (by simpa using hr.out.symm), rfl⟩
theorem sharight (x : UInt32) (n : Int) (hn : n = 2 ∨ n = 6 ∨ n = 7 ∨ n = 11 ∨ n = 13 ∨ n = 17 ∨ n = 18 ∨ n = 19 ∨ n = 22 ∨ n = 25) (w : World) :
    Calls Try.prog 106 #[.int .u32 (x.toNat : Int), .int .i64 n] w fun e w' => e = .returned (.int .u32 ((Sh.ror n x).toNat : Int)) ∧ w = w' := by
  rcases hn with rfl | rfl | rfl | rfl | rfl | rfl | rfl | rfl | rfl | rfl
  · exact sharight2 x w
  · exact sharight6 x w
  · exact sharight7 x w
  · exact sharight11 x w
  · exact sharight13 x w
  · exact sharight17 x w
  · exact sharight18 x w
  · exact sharight19 x w
  · exact sharight22 x w
  · exact sharight25 x w
set_option maxHeartbeats 400000 in
theorem refturned (x : UInt32) (n : Nat) (hn : n ≤ 32) (w : World) :
    Calls Try.prog 109 #[.int .u32 (x.toNat : Int), .int .i64 n] w fun e w' => e = .returned (.int .u32 ((Sh.ror n x).toNat : Int)) ∧ w = w' := by
  have H0 := Lib.hid (Sh.ror_zero x)
  have HS := Lib.hid (fun k hk => Sh.ror_succ k hk x)
  go_enter Try.func109, Try.ntmps109
  go_wp2_with fail
  go_loop [0, 5] (fun v i => ∃ k : Nat, k ≤ n ∧ i = .int .i64 k ∧ v = .int .u32 ((Sh.ror k x).toNat : Int)) (fun _ i => n - (intOf i).toNat)
  case atStart => exact ⟨0, Nat.zero_le _, rfl, by rw [show ((0 : Nat) : Int) = 0 from rfl, H0.out]⟩
  case round =>
    obtain ⟨k, hk, rfl, rfl⟩ := hrel
    by_cases hlt : k < n
    · have hs := Lib.hid (HS.out k (by omega))
      have hb := (Sh.ror k x).toNat_lt
      have hb2 := (Sh.ror ((k + 1 : Nat) : Int) x).toNat_lt
      generalize hp : (Sh.ror k x).toNat = p at *
      have q0 : (0 : Int) ≤ p := by omega
      have q1 : (p : Int) ≤ 4294967295 := by omega
      have HP := Lib.hid hp
      have HB := Lib.hid hb
      have HB2 := Lib.hid hb2
      clear hp hb hb2
      go_wp2_with fail
      go_round
      case rel => exact ⟨k + 1, by omega, by go_num, by rw [hs.out]; go_num⟩
      case measure => simp [intOf]; omega
    · obtain rfl : k = n := by omega
      go_wp2_with fail
      go_ret
      exact ⟨rfl, rfl⟩
theorem shr_toNat (x : UInt32) (k : Nat) : (UInt32.ofNat (x.toNat / 2 ^ k)).toNat = x.toNat / 2 ^ k := by
  have := x.toNat_lt
  have h := Nat.div_le_self x.toNat (2 ^ k)
  rw [UInt32.toNat_ofNat', Nat.mod_eq_of_lt (by omega)]
set_option maxHeartbeats 400000 in
theorem refshifted (x : UInt32) (n : Nat) (hn : n ≤ 32) (w : World) :
    Calls Try.prog 103 #[.int .u32 (x.toNat : Int), .int .i64 n] w fun e w' => e = .returned (.int .u32 ((UInt32.ofNat (x.toNat / 2 ^ n)).toNat : Int)) ∧ w = w' := by
  rw [shr_toNat]
  have hx := x.toNat_lt
  generalize x.toNat = X at *
  have HX := Lib.hid hx
  clear hx
  go_enter Try.func103, Try.ntmps103
  go_wp2_with fail
  go_loop [0, 5] (fun v i => ∃ k : Nat, k ≤ n ∧ i = .int .i64 k ∧ v = .int .u32 ((X / 2 ^ k : Nat) : Int)) (fun _ i => n - (intOf i).toNat)
  case atStart => exact ⟨0, Nat.zero_le _, rfl, by simp⟩
  case round =>
    obtain ⟨k, hk, rfl, rfl⟩ := hrel
    by_cases hlt : k < n
    · have hs := Lib.hid (show X / 2 ^ (k + 1) = X / 2 ^ k / 2 by rw [Nat.pow_succ, Nat.div_div_eq_div_mul])
      have hb := Nat.div_le_self X (2 ^ k)
      have hx := HX.out
      generalize X / 2 ^ k = p at *
      have q0 : (0 : Int) ≤ p := by omega
      have q1 : (p : Int) ≤ 4294967295 := by omega
      clear hb hx
      go_wp2_with fail
      go_round
      case rel => exact ⟨k + 1, by omega, by go_num, by rw [hs.out]; go_num⟩
      case measure => simp [intOf]; omega
    · obtain rfl : k = n := by omega
      go_wp2_with fail
      go_ret
      exact ⟨rfl, rfl⟩
end Go.Proofs.Ytjhopgmionpkoaa
namespace Go.Proofs.Ytjhopgmionpkoaa
set_option maxRecDepth 20000
open Go.RowKit Mem

def wcells (l : List UInt32) : List Value := l.map fun x => .int .u32 (x.toNat : Int)
theorem wcells_length (l : List UInt32) : (wcells l).length = l.length := List.length_map ..
theorem wcells_one (l : List UInt32) : (wcells l).toArray.all (·.oneCell') = true := by
  simp [wcells, Value.oneCell']
theorem wpList_build_to {P : Program} {ops : Array Oper} {rest : List Oper} {o : Oper} {a : Act} {w : World} {Q : Exit → Act → World → Prop} (hg : o.guard = none) (t : TypeId) (parts : Array (Nat × Operand)) (ho : o.op = .build t parts)
    (cells : Array Value) (hf : P.built t (parts.map fun (i, x) => (i, a.eval x)).toList = some cells)
    (h : wpList P ops Q rest (a.put o.dst (.agg cells)) w) : wpList P ops Q (o :: rest) a w := by
  refine wpList_build hg t parts ho (by rw [hf]; rfl) ?_
  rw [hf]; exact h
theorem below_setRow {B : Nat} {a w : World} {g : Nat} {cs : Array Value} (h : Below B a w) (hg : B ≤ g) : Below B a (w.setRow g cs) :=
  ⟨h.os, h.tape, h.output, by simpa using h.size, fun k hk => by rw [setRow_other _ _ _ _ (by omega)]; exact h.block k hk⟩
set_option maxHeartbeats 400000 in
theorem shafirst (w : World) :
    Calls Try.prog 92 #[] w fun e w' => e = .returned (.agg (wcells (Sh.stL Sh.first)).toArray) ∧ Below w.heap.size w w' := by
  go_enter Try.func92, Try.ntmps92
  go_wp2_with fail
  exact bodyPost_ret (v := .agg (wcells (Sh.stL Sh.first)).toArray) (results_cell_row (P := Try.prog) (d := .array 8 22) rfl _ _ w.heap.size _ _ _ rfl (heap_alloc_new _ _) (by kernel_rfl) rfl (by kernel_rfl)) rfl ⟨rfl, (Below.refl _ _).alloc (Nat.le_refl _) _⟩
set_option maxHeartbeats 400000 in
theorem reffirst (w : World) :
    Calls Try.prog 101 #[] w fun e w' => e = .returned (.agg (wcells (Sh.stL Sh.first)).toArray) ∧ Below w.heap.size w w' := by
  go_enter Try.func101, Try.ntmps101
  go_wp2_with fail
  exact bodyPost_ret (v := .agg (wcells (Sh.stL Sh.first)).toArray) (results_cell_row (P := Try.prog) (d := .array 8 22) rfl _ _ w.heap.size _ _ _ rfl (heap_alloc_new _ _) (by kernel_rfl) rfl (by kernel_rfl)) rfl ⟨rfl, (Below.refl _ _).alloc (Nat.le_refl _) _⟩
set_option maxRecDepth 100000 in
set_option maxHeartbeats 1000000 in
theorem shakeys (w : World) :
    Calls Try.prog 105 #[] w fun e w' => e = .returned (.agg (wcells Sh.ks).toArray) ∧ Below w.heap.size w w' := by
  go_enter Try.func105, Try.ntmps105
  go_wp2_with (first
    | refine wpList_build_to rfl _ _ rfl (wcells Sh.ks).toArray (by kernel_rfl) ?_
    | refine wpList_store_row rfl 127 (.tmp 0) (.tmp 1) rfl w.heap.size (wcells Sh.ks).toArray rfl rfl _ _ (heap_alloc_new _ _) (by kernel_rfl) (by kernel_rfl) (by kernel_rfl) ?_)
  refine bodyPost_ret (v := .agg (wcells Sh.ks).toArray) (results_cell_row (P := Try.prog) (d := .array 64 22) rfl _ _ w.heap.size _ _ _ rfl (setRow_heap _ _ _ _ _ _ (heap_alloc_new _ _)) (by kernel_rfl) rfl (by kernel_rfl)) rfl ⟨rfl, below_setRow ((Below.refl _ _).alloc (Nat.le_refl _) _) (Nat.le_refl _)⟩
set_option maxRecDepth 100000 in
set_option maxHeartbeats 1000000 in
theorem refks (w : World) :
    Calls Try.prog 108 #[] w fun e w' => e = .returned (.agg (wcells Sh.ks).toArray) ∧ Below w.heap.size w w' := by
  go_enter Try.func108, Try.ntmps108
  go_wp2_with (first
    | refine wpList_build_to rfl _ _ rfl (wcells Sh.ks).toArray (by kernel_rfl) ?_
    | refine wpList_store_row rfl 127 (.tmp 0) (.tmp 1) rfl w.heap.size (wcells Sh.ks).toArray rfl rfl _ _ (heap_alloc_new _ _) (by kernel_rfl) (by kernel_rfl) (by kernel_rfl) ?_)
  refine bodyPost_ret (v := .agg (wcells Sh.ks).toArray) (results_cell_row (P := Try.prog) (d := .array 64 22) rfl _ _ w.heap.size _ _ _ rfl (setRow_heap _ _ _ _ _ _ (heap_alloc_new _ _)) (by kernel_rfl) rfl (by kernel_rfl)) rfl ⟨rfl, below_setRow ((Below.refl _ _).alloc (Nat.le_refl _) _) (Nat.le_refl _)⟩
end Go.Proofs.Ytjhopgmionpkoaa
namespace Go.Proofs.Ytjhopgmionpkoaa.Mem
set_option maxRecDepth 20000
open Go.RowKit

theorem run_append_keep {P : Program} (w : World) (base : Nat) (t ty e : TypeId) (i : TypeInfo) (z : Value) (size bytes : Nat) (ht : P.underlying t = some (.slice e)) (hi : P.info? e = some i) (hz : i.zero = some z)
    (hsize : i.size = size) (hby : i.bytes = bytes) (hzs : z.cells.size = size) (hsz : 0 < size)
    (g n cap : Nat) (xs : List Value) (hown : w.ownsRow base e size (.slice (some ⟨g, 0, none⟩) n cap) n xs)
    (a : Addr) (m c : Nat) (news : List Value) (hl : news.length = m * size) (hnews : ∀ j u, news[j]? = some u → w.cell? (a.add j) = some u) (h1 : ∀ u ∈ news, u.oneCell' = true)
    (_hm : 0 < m) (h63 : n + m ≤ maxLen) (hbytes : (n + m) * bytes ≤ 140737488355328) (hbase : base ≤ w.heap.size) :
    ∃ g' cap' w', (Builtin.append_ #[t, t] ty #[.slice (some ⟨g, 0, none⟩) n cap, .slice (some a) m c]).run P w = .ok (.slice (some ⟨g', 0, none⟩) (n + m) cap') w' ∧
      w'.ownsRow base e size (.slice (some ⟨g', 0, none⟩) (n + m) cap') (n + m) (xs ++ news) ∧ w.grownBy w' (some g) ∧ (∀ j u, xs[j]? = some u → w'.cell? ⟨g, j, none⟩ = some u) ∧ g' < w'.heap.size := by
  subst hsize
  subst hby
  have hsmall : n + m ≤ 9223372036854775807 := by simp only [maxLen] at h63; omega
  have hlen : (xs ++ news).length = (n + m) * i.size := by rw [List.length_append, hown.1, hl, Nat.add_mul]
  have holds : ∀ j u, xs[j]? = some u → w.cell? ((⟨g, 0, none⟩ : Addr).add j) = some u := hown.cells (g := g) rfl
  rcases hown.2 with ⟨h0, _⟩ | ⟨g0, cap0, cur, h0, hbg, hg, hnc, hcm, hcs, htake⟩
  · cases h0
  · injection h0 with e1 e2 e3
    injection e1 with e1
    injection e1 with e1
    subst e1 e3
    have hgl : g < w.heap.size := (Array.getElem?_eq_some_iff.1 hg).1
    by_cases hroom : n + m ≤ cap
    · have hfit : n * i.size + news.length ≤ cur.size := by rw [hl, hcs, ← Nat.add_mul]; exact Nat.mul_le_mul_right _ hroom
      have hr := run_append_room (P := P) w t ty e i ht hi g n cap cur hg a m c news hl hnews h1 hroom hfit
      have hown' : (w.setRow g (cur.toList.take (n * i.size) ++ news ++ cur.toList.drop (n * i.size + news.length)).toArray).ownsRow base e i.size (.slice (some ⟨g, 0, none⟩) (n + m) cap) (n + m) (xs ++ news) := by
        refine ⟨hlen, .inr ⟨g, cap, _, rfl, hbg, setRow_heap w g cur _ e _ hg, hroom, hcm, ?_, ?_⟩⟩
        · simp only [List.size_toArray, List.length_append, List.length_take, List.length_drop, Array.length_toList]
          omega
        · rw [htake, ← hlen]
          exact List.take_left
      refine ⟨g, cap, _, hr, hown', ⟨rfl, rfl, rfl, by simp, fun k _ hk => setRow_other w g k _ (fun e => hk (by simp [e]))⟩, fun j u hu => ?_, by simpa using hgl⟩
      have hj : j < xs.length := by
        rcases Nat.lt_or_ge j xs.length with h | h
        · exact h
        · rw [List.getElem?_eq_none h] at hu; cases hu
      have := hown'.cells (g := g) rfl j u (by rw [List.getElem?_append_left hj]; exact hu)
      rwa [add_at] at this
    · have hge := grownCap_ge w (n + m) cap e
      have hcm' : grownCap w (n + m) cap e ≤ maxLen := grownCap_le_maxLen w (n + m) cap e h63
      have hr := run_append_grow (P := P) w t ty e i z ht hi hz ⟨g, 0, none⟩ n cap xs hown.1 holds a m c news hl hnews (by omega) (by omega) (growslice_fits (by omega) hbytes)
      refine ⟨w.heap.size, _, _, hr, ⟨hlen, .inr ⟨w.heap.size, _, _, rfl, hbase, heap_alloc_new w.drew _, hge, hcm', ?_, ?_⟩⟩, ⟨rfl, rfl, rfl, by simp, fun k hk _ => heap_alloc_old w.drew _ hk⟩, fun j u hu => ?_, by simp⟩
      · simp only [Array.size_append, List.size_toArray, size_zeroCells, hzs, hown.1, hl, ← Nat.add_mul]
        congr 1
        omega
      · simp only [Array.toList_append, List.append_assoc]
        rw [← List.append_assoc, ← hlen]
        exact List.take_left
      · have h2 := holds j u hu
        rw [add_at] at h2
        rw [World.cell?_of_block (w := w) (a := ⟨g, j, none⟩) (heap_alloc_old w.drew _ hgl)]
        exact h2
theorem step_append_keep {P : Program} {w : World} {Q : Exit → Act → World → Prop} {ops : Array Oper} {o : Oper} {a : Act} {K : Act → World → Prop} {E : Prop} (hgd : o.guard = none) (s x : Operand) (t : TypeId)
    (ho : o.op = .call { callee := .builtin .append, args := #[s, x], argTypes := #[t, t] })
    (base : Nat) (e : TypeId) (i : TypeInfo) (z : Value) (size bytes : Nat) (ht : P.underlying t = some (.slice e)) (hi : P.info? e = some i) (hz : i.zero = some z)
    (hsize : i.size = size) (hby : i.bytes = bytes) (hzs : z.cells.size = size) (hsz : 0 < size)
    (g n cap : Nat) (xs : List Value) (hs : a.eval s = .slice (some ⟨g, 0, none⟩) n cap) (hown : w.ownsRow base e size (.slice (some ⟨g, 0, none⟩) n cap) n xs)
    (ad : Addr) (m c : Nat) (news : List Value) (hx : a.eval x = .slice (some ad) m c) (hl : news.length = m * size) (hnews : ∀ j u, news[j]? = some u → w.cell? (ad.add j) = some u) (h1 : ∀ u ∈ news, u.oneCell' = true)
    (hm : 0 < m) (h63 : n + m ≤ maxLen) (hbytes : (n + m) * bytes ≤ 140737488355328) (hbase : base ≤ w.heap.size)
    (h : ∀ g' cap' w', w'.ownsRow base e size (.slice (some ⟨g', 0, none⟩) (n + m) cap') (n + m) (xs ++ news) → w.grownBy w' (some g) → (∀ j u, xs[j]? = some u → w'.cell? ⟨g, j, none⟩ = some u) → g' < w'.heap.size → K (a.put o.dst (.slice (some ⟨g', 0, none⟩) (n + m) cap')) w') :
    if Region.wanted o (yielded ops a.tmps) = true then Oper.wp P o a w K Q else E := by
  have hw : Region.wanted o (yielded ops a.tmps) = true := by simp [Region.wanted, hgd]
  rw [if_pos hw]
  obtain ⟨g', cap', w', hr, h2, h3, h4, h5⟩ := run_append_keep (P := P) w base t o.type e i z size bytes ht hi hz hsize hby hzs hsz g n cap xs hown ad m c news hl hnews h1 hm h63 hbytes hbase
  unfold Oper.wp execOp
  simp only [ho, resolve, invoke, builtin, Sem.run_bind, Sem.run_pure, Result.andThen_ok, List.map_toArray, List.map_cons, List.map_nil, hs, hx, hr]
  exact h g' cap' w' h2 h3 h4 h5
end Go.Proofs.Ytjhopgmionpkoaa.Mem
