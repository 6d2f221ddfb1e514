/-
  The digest in plain Lean, over numbers of 32 bits. No program in sight.
-/
namespace Go.Proofs.Ytofjfpnkdcpngaa.Sh
abbrev W := UInt32
/-- x turned n places to the right -/
def ror (n : Int) (x : W) : W := UInt32.ofNat (x.toNat / 2 ^ n.toNat + x.toNat % 2 ^ n.toNat * 2 ^ (32 - n.toNat))
def sig0 (x : W) : W := ror 7 x ^^^ ror 18 x ^^^ UInt32.ofNat (x.toNat / 8)
def sig1 (x : W) : W := ror 17 x ^^^ ror 19 x ^^^ UInt32.ofNat (x.toNat / 1024)
def word (a b c d : UInt8) : W := UInt32.ofNat (((a.toNat * 256 + b.toNat) * 256 + c.toNat) * 256 + d.toNat)
def nextW (b : List UInt8) (l : List W) : W :=
  if l.length < 16 then word (b.getD (4 * l.length) 0) (b.getD (4 * l.length + 1) 0) (b.getD (4 * l.length + 2) 0) (b.getD (4 * l.length + 3) 0)
  else l.getD (l.length - 16) 0 + sig0 (l.getD (l.length - 15) 0) + l.getD (l.length - 7) 0 + sig1 (l.getD (l.length - 2) 0)
def sched (b : List UInt8) : Nat → List W
  | 0 => []
  | k + 1 => sched b k ++ [nextW b (sched b k)]
theorem sched_length (b : List UInt8) : ∀ k, (sched b k).length = k
  | 0 => rfl
  | k + 1 => by simp [sched, sched_length b k]
def ks : List W := [
  0x428a2f98, 0x71374491, 0xb5c0fbcf, 0xe9b5dba5, 0x3956c25b, 0x59f111f1, 0x923f82a4, 0xab1c5ed5,
  0xd807aa98, 0x12835b01, 0x243185be, 0x550c7dc3, 0x72be5d74, 0x80deb1fe, 0x9bdc06a7, 0xc19bf174,
  0xe49b69c1, 0xefbe4786, 0x0fc19dc6, 0x240ca1cc, 0x2de92c6f, 0x4a7484aa, 0x5cb0a9dc, 0x76f988da,
  0x983e5152, 0xa831c66d, 0xb00327c8, 0xbf597fc7, 0xc6e00bf3, 0xd5a79147, 0x06ca6351, 0x14292967,
  0x27b70a85, 0x2e1b2138, 0x4d2c6dfc, 0x53380d13, 0x650a7354, 0x766a0abb, 0x81c2c92e, 0x92722c85,
  0xa2bfe8a1, 0xa81a664b, 0xc24b8b70, 0xc76c51a3, 0xd192e819, 0xd6990624, 0xf40e3585, 0x106aa070,
  0x19a4c116, 0x1e376c08, 0x2748774c, 0x34b0bcb5, 0x391c0cb3, 0x4ed8aa4a, 0x5b9cca4f, 0x682e6ff3,
  0x748f82ee, 0x78a5636f, 0x84c87814, 0x8cc70208, 0x90befffa, 0xa4506ceb, 0xbef9a3f7, 0xc67178f2]
theorem ks_length : ks.length = 64 := by decide
structure St where
  a : W
  b : W
  c : W
  d : W
  e : W
  f : W
  g : W
  h : W
def first : St := ⟨0x6a09e667, 0xbb67ae85, 0x3c6ef372, 0xa54ff53a, 0x510e527f, 0x9b05688c, 0x1f83d9ab, 0x5be0cd19⟩
def t1 (s : St) (k w : W) : W := s.h + (ror 6 s.e ^^^ ror 11 s.e ^^^ ror 25 s.e) + ((s.e &&& s.f) ^^^ ((4294967295 - s.e) &&& s.g)) + k + w
def t2 (s : St) : W := (ror 2 s.a ^^^ ror 13 s.a ^^^ ror 22 s.a) + ((s.a &&& s.b) ^^^ (s.a &&& s.c) ^^^ (s.b &&& s.c))
def rnd (s : St) (k w : W) : St := ⟨t1 s k w + t2 s, s.a, s.b, s.c, s.d + t1 s k w, s.e, s.f, s.g⟩
def rnds (b : List UInt8) : Nat → St → St
  | 0, s => s
  | n + 1, s => rnd (rnds b n s) (ks.getD n 0) ((sched b 64).getD n 0)
def plus (s v : St) : St := ⟨v.a + s.a, v.b + s.b, v.c + s.c, v.d + s.d, v.e + s.e, v.f + s.f, v.g + s.g, v.h + s.h⟩
/-- the state behind a block -/
def step (s : St) (b : List UInt8) : St := plus s (rnds b 64 s)
def stL (s : St) : List W := [s.a, s.b, s.c, s.d, s.e, s.f, s.g, s.h]
theorem ch_or (e f g : W) : (e &&& f) ^^^ ((4294967295 - e) &&& g) = (e &&& f) ||| ((4294967295 - e) &&& g) := by
  have h : (4294967295 : W) - e = ~~~e := by
    apply UInt32.toBitVec_inj.1
    simp only [UInt32.toBitVec_sub, UInt32.toBitVec_not]
    show (BitVec.allOnes 32) - e.toBitVec = ~~~e.toBitVec
    rw [BitVec.allOnes_sub_eq_not]
  rw [h]
  apply UInt32.toBitVec_inj.1
  simp only [UInt32.toBitVec_xor, UInt32.toBitVec_or, UInt32.toBitVec_and, UInt32.toBitVec_not]
  generalize e.toBitVec = x
  generalize f.toBitVec = y
  generalize g.toBitVec = z
  ext i hi
  simp only [BitVec.getElem_xor, BitVec.getElem_or, BitVec.getElem_and, BitVec.getElem_not]
  cases x[i] <;> cases y[i] <;> cases z[i] <;> rfl
theorem maj_or (a b c : W) : (a &&& b) ^^^ (a &&& c) ^^^ (b &&& c) = (a &&& b) ||| (a &&& c) ||| (b &&& c) := by
  apply UInt32.toBitVec_inj.1
  simp only [UInt32.toBitVec_xor, UInt32.toBitVec_or, UInt32.toBitVec_and]
  generalize a.toBitVec = x
  generalize b.toBitVec = y
  generalize c.toBitVec = z
  ext i hi
  simp only [BitVec.getElem_xor, BitVec.getElem_or, BitVec.getElem_and]
  cases x[i] <;> cases y[i] <;> cases z[i] <;> rfl
theorem ror_lt (n : Nat) (hn : n ≤ 32) (x : W) : x.toNat / 2 ^ n + x.toNat % 2 ^ n * 2 ^ (32 - n) < 4294967296 := by
  have hx := x.toNat_lt
  have h1 : x.toNat / 2 ^ n < 2 ^ (32 - n) := by
    rw [Nat.div_lt_iff_lt_mul (Nat.two_pow_pos n), ← Nat.pow_add, Nat.sub_add_cancel hn]
    exact hx
  have h2 : x.toNat % 2 ^ n < 2 ^ n := Nat.mod_lt _ (Nat.two_pow_pos n)
  have h3 : x.toNat % 2 ^ n * 2 ^ (32 - n) + 2 ^ (32 - n) ≤ 2 ^ n * 2 ^ (32 - n) := by
    rw [← Nat.succ_mul]
    exact Nat.mul_le_mul_right _ h2
  have h4 : 2 ^ n * 2 ^ (32 - n) = 4294967296 := by rw [← Nat.pow_add, Nat.add_sub_cancel' hn]
  omega
theorem ror_toNat (n : Int) (hn : n.toNat ≤ 32) (x : W) : (ror n x).toNat = x.toNat / 2 ^ n.toNat + x.toNat % 2 ^ n.toNat * 2 ^ (32 - n.toNat) := by
  unfold ror
  rw [UInt32.toNat_ofNat']
  exact Nat.mod_eq_of_lt (ror_lt _ hn x)
theorem ror_zero (x : W) : (ror 0 x).toNat = x.toNat := by
  rw [ror_toNat 0 (by decide)]
  simp [Nat.mod_one]
/-- one place more -/
theorem ror_succ (k : Nat) (hk : k < 32) (x : W) : (ror (k + 1 : Nat) x).toNat = (ror k x).toNat / 2 + (ror k x).toNat % 2 * 2147483648 := by
  rw [ror_toNat _ (by omega), ror_toNat _ (by omega), Int.toNat_natCast, Int.toNat_natCast]
  have e : 2 ^ (32 - k) = 2 * 2 ^ (31 - k) := by rw [show 32 - k = (31 - k) + 1 by omega, Nat.pow_succ']
  have e2 : 32 - (k + 1) = 31 - k := by omega
  have e3 : 2 ^ k * 2 ^ (31 - k) = 2147483648 := by rw [← Nat.pow_add, show k + (31 - k) = 31 by omega]
  rw [e2, e, Nat.pow_succ, ← Nat.div_div_eq_div_mul, Nat.mod_mul, Nat.add_mul]
  have e4 : 2 ^ k * (x.toNat / 2 ^ k % 2) * 2 ^ (31 - k) = x.toNat / 2 ^ k % 2 * 2147483648 := by
    rw [Nat.mul_comm (2 ^ k), Nat.mul_assoc, e3]
  rw [e4]
  have e5 : x.toNat % 2 ^ k * (2 * 2 ^ (31 - k)) = 2 * (x.toNat % 2 ^ k * 2 ^ (31 - k)) := by
    rw [← Nat.mul_assoc, Nat.mul_comm _ 2, Nat.mul_assoc]
  rw [e5]
  omega
end Go.Proofs.Ytofjfpnkdcpngaa.Sh
