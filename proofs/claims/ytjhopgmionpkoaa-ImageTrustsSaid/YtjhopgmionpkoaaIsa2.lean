/-
  What is wrong of an instruction, by the reference of the package isa.
  A number at a place of bytes: the package octet and its reference.
  The instruction at a place of bytes: the function Read of the package isa.
  The instruction at a place of bytes: the function Read of the reference.
  A number laid down behind bytes: the function Put of the package octet.
  An instruction in bytes: Bytes of the package isa.
  A code out of bytes: Decode of the package isa and of its reference.
  What must come of fixed calls of the package isa.
  Numbers behind bytes, an instruction in bytes, and how many bytes it has: by the reference, and the size by the package isa.
  An instruction in bytes by the reference, sizes, and a code in bytes.
  A slice of instructions that came in, and one instruction by value, opened.
-/
import Derived.Test.YtjhopgmionpkoaaIsa1
import Derived.Test.YtjhopgmionpkoaaBytes
import Derived.Test.YtjhopgmionpkoaaRows
import Derived.WalkSpells
import Derived.WalkLawsBesides
import Derived.Handy
import Derived.Lib.Hide
import Derived.LoopTactic
import Derived.Laws.BitsAllLaws
import Derived.Laws.CopyOwn
import Derived.Laws.MakeOwn
import Derived.OwnWalk
import Derived.Deep.RegionHeld3
import Derived.Deep.DeepCutAuto
import Derived.OpenShut
import Derived.ProofKit
import Derived.SizedLaws
import Derived.DataShut
import Derived.Deep.Slices
import Derived.Lib.SmallJoins
namespace Go.Proofs.Ytjhopgmionpkoaa
set_option maxRecDepth 20000
open Go.RowKit

set_option maxHeartbeats 4000000 in
theorem refright_none (op n : Int) (hf : Ia.form op = 0) (w : World) :
    Calls Try.prog 57 #[.agg #[.int .i64 op, .int .i32 n]] w fun e w' => e = .returned (.int .i64 9) ∧ Below w.heap.size w w' := by
  have HF := Lib.hid hf
  clear hf
  go_enter Try.func57, Try.ntmps57
  go_wp2_with fail
  refine (refwidth _ _).mono ?_
  rintro e w' ⟨rfl, rfl⟩
  rw [HF.out]
  go_wp2_with fail
  go_ret
  exact ⟨rfl, (Below.refl _ _).alloc (Nat.le_refl _) _⟩
set_option maxHeartbeats 4000000 in
theorem refright_8lo (op n : Int) (hop : op = 8) (h : n < 1) (w : World) :
    Calls Try.prog 57 #[.agg #[.int .i64 op, .int .i32 n]] w fun e w' => e = .returned (.int .i64 9) ∧ Below w.heap.size w w' := by
  subst hop
  have hf : Ia.form 8 = 1 := by decide
  have HF := Lib.hid hf
  clear hf
  go_enter Try.func57, Try.ntmps57
  go_wp2_with fail
  refine (refwidth _ _).mono ?_
  rintro e w' ⟨rfl, rfl⟩
  rw [HF.out]
  go_wp2_with fail
  go_ret
  exact ⟨rfl, (Below.refl _ _).alloc (Nat.le_refl _) _⟩
set_option maxHeartbeats 4000000 in
theorem refright_8hi (op n : Int) (hop : op = 8) (h1 : 1 ≤ n) (h : 2 < n) (w : World) :
    Calls Try.prog 57 #[.agg #[.int .i64 op, .int .i32 n]] w fun e w' => e = .returned (.int .i64 9) ∧ Below w.heap.size w w' := by
  subst hop
  have hf : Ia.form 8 = 1 := by decide
  have HF := Lib.hid hf
  clear hf
  go_enter Try.func57, Try.ntmps57
  go_wp2_with fail
  refine (refwidth _ _).mono ?_
  rintro e w' ⟨rfl, rfl⟩
  rw [HF.out]
  go_wp2_with fail
  go_ret
  exact ⟨rfl, (Below.refl _ _).alloc (Nat.le_refl _) _⟩
set_option maxHeartbeats 4000000 in
theorem refright_8ok (op n : Int) (hop : op = 8) (h1 : 1 ≤ n) (h : n ≤ 2) (w : World) :
    Calls Try.prog 57 #[.agg #[.int .i64 op, .int .i32 n]] w fun e w' => e = .returned (.int .i64 0) ∧ Below w.heap.size w w' := by
  subst hop
  have hf : Ia.form 8 = 1 := by decide
  have HF := Lib.hid hf
  clear hf
  go_enter Try.func57, Try.ntmps57
  go_wp2_with fail
  refine (refwidth _ _).mono ?_
  rintro e w' ⟨rfl, rfl⟩
  rw [HF.out]
  go_wp2_with fail
  refine (refwidth _ _).mono ?_
  rintro e w' ⟨rfl, rfl⟩
  rw [HF.out]
  go_wp2_with fail
  refine (refwidth _ _).mono ?_
  rintro e w' ⟨rfl, rfl⟩
  rw [HF.out]
  go_wp2_with fail
  go_ret
  exact ⟨rfl, (Below.refl _ _).alloc (Nat.le_refl _) _⟩
set_option maxHeartbeats 4000000 in
theorem refright_9lo (op n : Int) (hop : op = 9) (h : n < 1) (w : World) :
    Calls Try.prog 57 #[.agg #[.int .i64 op, .int .i32 n]] w fun e w' => e = .returned (.int .i64 9) ∧ Below w.heap.size w w' := by
  subst hop
  have hf : Ia.form 9 = 1 := by decide
  have HF := Lib.hid hf
  clear hf
  go_enter Try.func57, Try.ntmps57
  go_wp2_with fail
  refine (refwidth _ _).mono ?_
  rintro e w' ⟨rfl, rfl⟩
  rw [HF.out]
  go_wp2_with fail
  go_ret
  exact ⟨rfl, (Below.refl _ _).alloc (Nat.le_refl _) _⟩
set_option maxHeartbeats 4000000 in
theorem refright_9hi (op n : Int) (hop : op = 9) (h1 : 1 ≤ n) (h : 16 < n) (w : World) :
    Calls Try.prog 57 #[.agg #[.int .i64 op, .int .i32 n]] w fun e w' => e = .returned (.int .i64 9) ∧ Below w.heap.size w w' := by
  subst hop
  have hf : Ia.form 9 = 1 := by decide
  have HF := Lib.hid hf
  clear hf
  go_enter Try.func57, Try.ntmps57
  go_wp2_with fail
  refine (refwidth _ _).mono ?_
  rintro e w' ⟨rfl, rfl⟩
  rw [HF.out]
  go_wp2_with fail
  go_ret
  exact ⟨rfl, (Below.refl _ _).alloc (Nat.le_refl _) _⟩
set_option maxHeartbeats 4000000 in
theorem refright_9ok (op n : Int) (hop : op = 9) (h1 : 1 ≤ n) (h : n ≤ 16) (w : World) :
    Calls Try.prog 57 #[.agg #[.int .i64 op, .int .i32 n]] w fun e w' => e = .returned (.int .i64 0) ∧ Below w.heap.size w w' := by
  subst hop
  have hf : Ia.form 9 = 1 := by decide
  have HF := Lib.hid hf
  clear hf
  go_enter Try.func57, Try.ntmps57
  go_wp2_with fail
  refine (refwidth _ _).mono ?_
  rintro e w' ⟨rfl, rfl⟩
  rw [HF.out]
  go_wp2_with fail
  refine (refwidth _ _).mono ?_
  rintro e w' ⟨rfl, rfl⟩
  rw [HF.out]
  go_wp2_with fail
  refine (refwidth _ _).mono ?_
  rintro e w' ⟨rfl, rfl⟩
  rw [HF.out]
  go_wp2_with fail
  go_ret
  exact ⟨rfl, (Below.refl _ _).alloc (Nat.le_refl _) _⟩
set_option maxHeartbeats 4000000 in
theorem refright_2flo (op n : Int) (hf : Ia.form op = 2) (h8 : (op == 8) = false) (h9 : (op == 9) = false) (h : n < 0) (w : World) :
    Calls Try.prog 57 #[.agg #[.int .i64 op, .int .i32 n]] w fun e w' => e = .returned (.int .i64 10) ∧ Below w.heap.size w w' := by
  have HF := Lib.hid hf
  clear hf
  go_enter Try.func57, Try.ntmps57
  go_wp2_with fail
  refine (refwidth _ _).mono ?_
  rintro e w' ⟨rfl, rfl⟩
  rw [HF.out]
  go_wp2_with fail
  refine (refwidth _ _).mono ?_
  rintro e w' ⟨rfl, rfl⟩
  rw [HF.out]
  go_wp2_with fail
  go_ret
  exact ⟨rfl, (Below.refl _ _).alloc (Nat.le_refl _) _⟩
set_option maxHeartbeats 4000000 in
theorem refright_2fhi (op n : Int) (hf : Ia.form op = 2) (h8 : (op == 8) = false) (h9 : (op == 9) = false) (h1 : 0 ≤ n) (h : 65535 < n) (w : World) :
    Calls Try.prog 57 #[.agg #[.int .i64 op, .int .i32 n]] w fun e w' => e = .returned (.int .i64 10) ∧ Below w.heap.size w w' := by
  have HF := Lib.hid hf
  clear hf
  go_enter Try.func57, Try.ntmps57
  go_wp2_with fail
  refine (refwidth _ _).mono ?_
  rintro e w' ⟨rfl, rfl⟩
  rw [HF.out]
  go_wp2_with fail
  refine (refwidth _ _).mono ?_
  rintro e w' ⟨rfl, rfl⟩
  rw [HF.out]
  go_wp2_with fail
  go_ret
  exact ⟨rfl, (Below.refl _ _).alloc (Nat.le_refl _) _⟩
set_option maxHeartbeats 4000000 in
theorem refright_2fok (op n : Int) (hf : Ia.form op = 2) (h8 : (op == 8) = false) (h9 : (op == 9) = false) (h1 : 0 ≤ n) (h : n ≤ 65535) (w : World) :
    Calls Try.prog 57 #[.agg #[.int .i64 op, .int .i32 n]] w fun e w' => e = .returned (.int .i64 0) ∧ Below w.heap.size w w' := by
  have HF := Lib.hid hf
  clear hf
  go_enter Try.func57, Try.ntmps57
  go_wp2_with fail
  refine (refwidth _ _).mono ?_
  rintro e w' ⟨rfl, rfl⟩
  rw [HF.out]
  go_wp2_with fail
  refine (refwidth _ _).mono ?_
  rintro e w' ⟨rfl, rfl⟩
  rw [HF.out]
  go_wp2_with fail
  refine (refwidth _ _).mono ?_
  rintro e w' ⟨rfl, rfl⟩
  rw [HF.out]
  go_wp2_with fail
  go_ret
  exact ⟨rfl, (Below.refl _ _).alloc (Nat.le_refl _) _⟩
set_option maxHeartbeats 4000000 in
theorem refright_1flo (op n : Int) (hf : Ia.form op = 1) (h8 : (op == 8) = false) (h9 : (op == 9) = false) (h : n < 0) (w : World) :
    Calls Try.prog 57 #[.agg #[.int .i64 op, .int .i32 n]] w fun e w' => e = .returned (.int .i64 10) ∧ Below w.heap.size w w' := by
  have HF := Lib.hid hf
  clear hf
  go_enter Try.func57, Try.ntmps57
  go_wp2_with fail
  refine (refwidth _ _).mono ?_
  rintro e w' ⟨rfl, rfl⟩
  rw [HF.out]
  go_wp2_with fail
  refine (refwidth _ _).mono ?_
  rintro e w' ⟨rfl, rfl⟩
  rw [HF.out]
  go_wp2_with fail
  refine (refwidth _ _).mono ?_
  rintro e w' ⟨rfl, rfl⟩
  rw [HF.out]
  go_wp2_with fail
  go_ret
  exact ⟨rfl, (Below.refl _ _).alloc (Nat.le_refl _) _⟩
set_option maxHeartbeats 4000000 in
theorem refright_1fhi (op n : Int) (hf : Ia.form op = 1) (h8 : (op == 8) = false) (h9 : (op == 9) = false) (h1 : 0 ≤ n) (h : 255 < n) (w : World) :
    Calls Try.prog 57 #[.agg #[.int .i64 op, .int .i32 n]] w fun e w' => e = .returned (.int .i64 10) ∧ Below w.heap.size w w' := by
  have HF := Lib.hid hf
  clear hf
  go_enter Try.func57, Try.ntmps57
  go_wp2_with fail
  refine (refwidth _ _).mono ?_
  rintro e w' ⟨rfl, rfl⟩
  rw [HF.out]
  go_wp2_with fail
  refine (refwidth _ _).mono ?_
  rintro e w' ⟨rfl, rfl⟩
  rw [HF.out]
  go_wp2_with fail
  refine (refwidth _ _).mono ?_
  rintro e w' ⟨rfl, rfl⟩
  rw [HF.out]
  go_wp2_with fail
  go_ret
  exact ⟨rfl, (Below.refl _ _).alloc (Nat.le_refl _) _⟩
set_option maxHeartbeats 4000000 in
theorem refright_1fok (op n : Int) (hf : Ia.form op = 1) (h8 : (op == 8) = false) (h9 : (op == 9) = false) (h1 : 0 ≤ n) (h : n ≤ 255) (w : World) :
    Calls Try.prog 57 #[.agg #[.int .i64 op, .int .i32 n]] w fun e w' => e = .returned (.int .i64 0) ∧ Below w.heap.size w w' := by
  have HF := Lib.hid hf
  clear hf
  go_enter Try.func57, Try.ntmps57
  go_wp2_with fail
  refine (refwidth _ _).mono ?_
  rintro e w' ⟨rfl, rfl⟩
  rw [HF.out]
  go_wp2_with fail
  refine (refwidth _ _).mono ?_
  rintro e w' ⟨rfl, rfl⟩
  rw [HF.out]
  go_wp2_with fail
  refine (refwidth _ _).mono ?_
  rintro e w' ⟨rfl, rfl⟩
  rw [HF.out]
  go_wp2_with fail
  go_ret
  exact ⟨rfl, (Below.refl _ _).alloc (Nat.le_refl _) _⟩
set_option maxHeartbeats 4000000 in
theorem refright_push (op n : Int) (hf : Ia.form op = 4) (h8 : (op == 8) = false) (h9 : (op == 9) = false) (w : World) :
    Calls Try.prog 57 #[.agg #[.int .i64 op, .int .i32 n]] w fun e w' => e = .returned (.int .i64 0) ∧ Below w.heap.size w w' := by
  have HF := Lib.hid hf
  clear hf
  go_enter Try.func57, Try.ntmps57
  go_wp2_with fail
  refine (refwidth _ _).mono ?_
  rintro e w' ⟨rfl, rfl⟩
  rw [HF.out]
  go_wp2_with fail
  refine (refwidth _ _).mono ?_
  rintro e w' ⟨rfl, rfl⟩
  rw [HF.out]
  go_wp2_with fail
  refine (refwidth _ _).mono ?_
  rintro e w' ⟨rfl, rfl⟩
  rw [HF.out]
  go_wp2_with fail
  go_ret
  exact ⟨rfl, (Below.refl _ _).alloc (Nat.le_refl _) _⟩
theorem refright (i : Ia.Ins) (w : World) :
    Calls Try.prog 57 #[.agg #[.int .i64 i.op, .int .i32 i.n]] w fun e w' => e = .returned (.int .i64 (Ia.right i)) ∧ Below w.heap.size w w' := by
  obtain ⟨op, n⟩ := i
  unfold Ia.right
  dsimp only
  by_cases f0 : Ia.form op = 0
  · rw [if_pos f0]; exact refright_none op n f0 w
  rw [if_neg f0]
  by_cases f4 : Ia.form op = 4
  · rw [if_pos f4]
    have h1 : op = 1 := by unfold Ia.form at f4; split at f4; assumption; split at f4; omega; split at f4 <;> omega
    subst h1
    exact refright_push 1 n f4 (by decide) (by decide) w
  rw [if_neg f4]
  by_cases h8 : op = 8
  · have hm : Ia.most op = 2 := by rw [h8]; decide
    rw [hm]
    by_cases h1 : n < 1
    · rw [if_pos ⟨.inl h8, .inl h1⟩]; exact refright_8lo op n h8 h1 w
    · by_cases h2 : 2 < n
      · rw [if_pos ⟨.inl h8, .inr h2⟩]; exact refright_8hi op n h8 (by omega) h2 w
      · rw [if_neg (by omega), if_neg (by omega)]; exact refright_8ok op n h8 (by omega) (by omega) w
  by_cases h9 : op = 9
  · have hm : Ia.most op = 16 := by rw [h9]; decide
    rw [hm]
    by_cases h1 : n < 1
    · rw [if_pos ⟨.inr h9, .inl h1⟩]; exact refright_9lo op n h9 h1 w
    · by_cases h2 : 16 < n
      · rw [if_pos ⟨.inr h9, .inr h2⟩]; exact refright_9hi op n h9 (by omega) h2 w
      · rw [if_neg (by omega), if_neg (by omega)]; exact refright_9ok op n h9 (by omega) (by omega) w
  rw [if_neg (fun h => by rcases h.1 with h | h; exact h8 h; exact h9 h)]
  have b8 : (op == 8) = false := by simpa using h8
  have b9 : (op == 9) = false := by simpa using h9
  rcases (Ia.form_le op) with e | e | e | e
  · exact absurd e f0
  · have hm : Ia.most op = 255 := by
      unfold Ia.most
      rw [if_neg h8, if_neg h9, if_neg]
      intro h
      unfold Ia.form at e
      rw [if_neg (by omega), if_pos h] at e
      omega
    rw [hm]
    by_cases h1 : n < 0
    · rw [if_pos (.inl h1)]; exact refright_1flo op n e b8 b9 h1 w
    · by_cases h2 : 255 < n
      · rw [if_pos (.inr h2)]; exact refright_1fhi op n e b8 b9 (by omega) h2 w
      · rw [if_neg (by omega)]; exact refright_1fok op n e b8 b9 (by omega) (by omega) w
  · have hm : Ia.most op = 65535 := by
      unfold Ia.most
      rw [if_neg h8, if_neg h9, if_pos]
      unfold Ia.form at e
      by_cases h1 : op = 1
      · rw [if_pos h1] at e; omega
      · rw [if_neg h1] at e
        by_cases h2 : op = 10 ∨ op = 11
        · exact h2
        · rw [if_neg h2] at e
          split at e <;> omega
    rw [hm]
    by_cases h1 : n < 0
    · rw [if_pos (.inl h1)]; exact refright_2flo op n e b8 b9 h1 w
    · by_cases h2 : 65535 < n
      · rw [if_pos (.inr h2)]; exact refright_2fhi op n e b8 b9 (by omega) h2 w
      · rw [if_neg (by omega)]; exact refright_2fok op n e b8 b9 (by omega) (by omega) w
  · exact absurd e f4
end Go.Proofs.Ytjhopgmionpkoaa
namespace Go.Proofs.Ytjhopgmionpkoaa
set_option maxRecDepth 20000
open Go.RowKit

/-- the number at a place, and the error -/
def get (bs : List UInt8) (at_ wd : Int) : Nat × Int :=
  if wd < 1 ∨ 8 < wd ∨ at_ < 0 ∨ (bs.length : Int) < at_ then (0, 1)
  else if (bs.length : Int) - at_ < wd then (0, 2)
  else (Ia.unle ((bs.drop at_.toNat).take wd.toNat), 0)
theorem unle_snoc : ∀ (l : List UInt8) (c : UInt8), Ia.unle (l ++ [c]) = Ia.unle l + c.toNat * 256 ^ l.length
  | [], c => by simp [Ia.unle]
  | d :: l, c => by
    simp only [List.cons_append, Ia.unle, unle_snoc l c, List.length_cons, Nat.pow_succ]
    rw [Nat.mul_add, Nat.add_assoc]
    congr 2
    rw [Nat.mul_comm 256 (c.toNat * 256 ^ l.length), Nat.mul_assoc]
theorem take_drop_snoc (bs : List UInt8) (p k : Nat) (h : p + k < bs.length) : (bs.drop p).take (k + 1) = (bs.drop p).take k ++ [bs[p + k]'h] := by
  rw [List.take_succ_eq_append_getElem (by rw [List.length_drop]; omega)]
  simp
theorem or_place (U c k : Nat) (hk : k < 8) (hU : U < 256 ^ k) (hc : c < 256) : bits .or .u64 (U : Int) (IntKind.u64.wrap ((c : Int) * 2 ^ (8 * k))) = ((U + c * 256 ^ k : Nat) : Int) := by
  have e : (256 : Nat) ^ k = 2 ^ (8 * k) := by rw [Nat.pow_mul]
  have hcast : ((c : Int) * 2 ^ (8 * k)) = ((c * 2 ^ (8 * k) : Nat) : Int) := by simp
  have h1 : (2 : Nat) ^ (8 * k) ≤ 2 ^ 56 := Nat.pow_le_pow_right (by omega) (by omega)
  have h2 : c * 2 ^ (8 * k) ≤ 255 * 2 ^ 56 := Nat.mul_le_mul (by omega) h1
  rw [e] at hU ⊢
  have hw : IntKind.u64.wrap ((c * 2 ^ (8 * k) : Nat) : Int) = ((c * 2 ^ (8 * k) : Nat) : Int) := by
    generalize c * 2 ^ (8 * k) = X at h2 ⊢
    simp only [IntKind.wrap_u64]
    omega
  rw [hcast, hw, u64_or_nat _ _ (by omega) (by omega), Nat.or_comm, nat_join (8 * k) _ _ (by simp) hU, Nat.add_comm]
set_option maxHeartbeats 4000000 in
theorem octget_ok (bs : List UInt8) (A : Option Addr) (c : Nat) (p wd : Nat) (w : World) (hA : BytesAt w A bs) (hn : bs.length ≤ 9223372036854775807) (h1 : 1 ≤ wd) (h8 : wd ≤ 8) (hp : p + wd ≤ bs.length) :
    Calls Try.prog 63 #[.slice A bs.length c, .int .i64 p, .int .i64 wd] w fun e w' => e = .returned (.tuple #[.int .u64 (Ia.unle ((bs.drop p).take wd)), .int .i64 0]) ∧ w = w' := by
  have HA := Lib.hid hA
  clear hA
  go_enter Try.func63, Try.ntmps63
  go_wp2_with fail
  go_loop [8, 33] (fun n i => ∃ k : Nat, k ≤ wd ∧ i = .int .i64 k ∧ n = .int .u64 (Ia.unle ((bs.drop p).take k))) (fun _ i => wd - (intOf i).toNat)
  case atStart => exact ⟨0, Nat.zero_le _, rfl, rfl⟩
  case round =>
    obtain ⟨k, hk, rfl, rfl⟩ := hrel
    by_cases hlt : k < wd
    · have hpk : p + k < bs.length := by omega
      obtain ⟨b, off, rfl, c0⟩ := HA.out (p + k) hpk
      have hcb : ((bs[p + k]'hpk).toNat : Int) ≤ 255 := by have := (bs[p + k]'hpk).toNat_lt; omega
      have HU := Lib.hid (Ia.unle_lt ((bs.drop p).take k))
      have HS := Lib.hid (unle_snoc ((bs.drop p).take k) (bs[p + k]'hpk))
      rw [← take_drop_snoc bs p k hpk] at HS
      have hlk : ((bs.drop p).take k).length = k := by rw [List.length_take, List.length_drop]; omega
      rw [hlk] at HS HU
      have HO := Lib.hid (or_place _ _ k (by omega) HU.out (bs[p + k]'hpk).toNat_lt)
      clear hlk HU
      go_wp2_with fail
      go_round
      case rel => exact ⟨k + 1, by omega, by go_num, by rw [HS.out, HO.out]⟩
      case measure => simp [intOf]; omega
    · obtain rfl : k = wd := by omega
      go_wp2_with fail
      go_ret2
      exact ⟨rfl, rfl⟩
set_option maxHeartbeats 4000000 in
/-- the number at any place -/
theorem octget (bs : List UInt8) (A : Option Addr) (c : Nat) (a : Int) (wd : Nat) (w : World) (hA : BytesAt w A bs) (hn : bs.length ≤ 4611686018427387904) (h1 : 1 ≤ wd) (h8 : wd ≤ 8) (ha1 : -9223372036854775808 ≤ a) (ha2 : a ≤ 9223372036854775807) :
    Calls Try.prog 63 #[.slice A bs.length c, .int .i64 a, .int .i64 wd] w fun e w' => e = .returned (.tuple #[.int .u64 (get bs a wd).1, .int .i64 (get bs a wd).2]) ∧ w = w' := by
  by_cases hlo : a < 0
  · have e : get bs a wd = (0, 1) := by unfold get; rw [if_pos (by omega)]
    rw [e]
    clear hA
    go_enter Try.func63, Try.ntmps63
    go_wp2_with fail
    go_ret2
    exact ⟨rfl, rfl⟩
  · by_cases hhi : (bs.length : Int) < a
    · have e : get bs a wd = (0, 1) := by unfold get; rw [if_pos (by omega)]
      rw [e]
      clear hA
      go_enter Try.func63, Try.ntmps63
      go_wp2_with fail
      go_ret2
      exact ⟨rfl, rfl⟩
    · obtain ⟨p, rfl⟩ := Int.eq_ofNat_of_zero_le (show 0 ≤ a by omega)
      by_cases hsh : (bs.length : Int) - p < wd
      · have e : get bs p wd = (0, 2) := by unfold get; rw [if_neg (by omega), if_pos (by omega)]
        rw [e]
        clear hA
        go_enter Try.func63, Try.ntmps63
        go_wp2_with fail
        go_ret2
        exact ⟨rfl, rfl⟩
      · have e : get bs p wd = (Ia.unle ((bs.drop p).take wd), 0) := by unfold get; rw [if_neg (by omega), if_neg (by omega)]; rfl
        rw [e]
        exact octget_ok bs A c p wd w hA (by omega) h1 h8 (by omega)
theorem take_drop_first (bs : List UInt8) (p k wd : Nat) (hk : k < wd) (h : p + k < bs.length) : (bs.drop (p + k)).take (wd - k) = bs[p + k]'h :: (bs.drop (p + (k + 1))).take (wd - (k + 1)) := by
  rw [List.drop_eq_getElem_cons h, show wd - k = (wd - (k + 1)) + 1 by omega, List.take_succ_cons]
  rfl
set_option maxHeartbeats 4000000 in
theorem refget_ok (bs : List UInt8) (A : Option Addr) (c : Nat) (p wd : Nat) (w : World) (hA : BytesAt w A bs) (hn : bs.length ≤ 9223372036854775807) (h1 : 1 ≤ wd) (h8 : wd ≤ 8) (hp : p + wd ≤ bs.length) :
    Calls Try.prog 87 #[.slice A bs.length c, .int .i64 p, .int .i64 wd] w fun e w' => e = .returned (.tuple #[.int .u64 (Ia.unle ((bs.drop p).take wd)), .int .i64 0]) ∧ w = w' := by
  have HA := Lib.hid hA
  clear hA
  go_enter Try.func87, Try.ntmps87
  go_wp2_with fail
  go_loop [8, 9] (fun n i => ∃ k : Nat, k ≤ wd ∧ i = .int .i64 ((k : Int) - 1) ∧ n = .int .u64 (Ia.unle ((bs.drop (p + k)).take (wd - k)))) (fun _ i => (intOf i + 1).toNat)
  case atStart => exact ⟨wd, Nat.le_refl _, rfl, by simp [Ia.unle]⟩
  case round =>
    obtain ⟨k, hk, rfl, rfl⟩ := hrel
    rcases k with _ | k
    · go_wp2_with fail
      go_ret2
      exact ⟨rfl, rfl⟩
    · have hpk : p + k < bs.length := by omega
      obtain ⟨b, off, rfl, c0⟩ := HA.out (p + k) hpk
      have hcb : ((bs[p + k]'hpk).toNat : Int) ≤ 255 := by have := (bs[p + k]'hpk).toNat_lt; omega
      have hU : Ia.unle ((bs.drop (p + (k + 1))).take (wd - (k + 1))) < 256 ^ 7 := by
        refine Nat.lt_of_lt_of_le (Ia.unle_lt _) (Nat.pow_le_pow_right (by omega) ?_)
        rw [List.length_take]
        omega
      have hU2 : (Ia.unle ((bs.drop (p + (k + 1))).take (wd - (k + 1))) : Int) ≤ 72057594037927935 := by omega
      have hS : Ia.unle ((bs.drop (p + k)).take (wd - k)) = (bs[p + k]'hpk).toNat + 256 * Ia.unle ((bs.drop (p + (k + 1))).take (wd - (k + 1))) := by
        rw [take_drop_first bs p k wd (by omega) hpk]
        rfl
      have HS := Lib.hid hS
      clear hS hU
      have hk1 : ((k + 1 : Nat) : Int) - 1 = (k : Int) := by omega
      rw [hk1]
      clear hk1
      generalize Ia.unle ((bs.drop (p + (k + 1))).take (wd - (k + 1))) = U at *
      go_wp2_with fail
      go_round
      case rel => exact ⟨k, by omega, by go_num, by rw [HS.out]; go_num⟩
      case measure => simp [intOf]
set_option maxHeartbeats 4000000 in
theorem refget (bs : List UInt8) (A : Option Addr) (c : Nat) (a : Int) (wd : Nat) (w : World) (hA : BytesAt w A bs) (hn : bs.length ≤ 4611686018427387904) (h1 : 1 ≤ wd) (h8 : wd ≤ 8) (ha1 : -9223372036854775808 ≤ a) (ha2 : a ≤ 9223372036854775807) :
    Calls Try.prog 87 #[.slice A bs.length c, .int .i64 a, .int .i64 wd] w fun e w' => e = .returned (.tuple #[.int .u64 (get bs a wd).1, .int .i64 (get bs a wd).2]) ∧ w = w' := by
  by_cases hlo : a < 0
  · have e : get bs a wd = (0, 1) := by unfold get; rw [if_pos (by omega)]
    rw [e]
    clear hA
    go_enter Try.func87, Try.ntmps87
    go_wp2_with fail
    go_ret2
    exact ⟨rfl, rfl⟩
  · by_cases hhi : (bs.length : Int) < a
    · have e : get bs a wd = (0, 1) := by unfold get; rw [if_pos (by omega)]
      rw [e]
      clear hA
      go_enter Try.func87, Try.ntmps87
      go_wp2_with fail
      go_ret2
      exact ⟨rfl, rfl⟩
    · obtain ⟨p, rfl⟩ := Int.eq_ofNat_of_zero_le (show 0 ≤ a by omega)
      by_cases hsh : (bs.length : Int) - p < wd
      · have e : get bs p wd = (0, 2) := by unfold get; rw [if_neg (by omega), if_pos (by omega)]
        rw [e]
        clear hA
        go_enter Try.func87, Try.ntmps87
        go_wp2_with fail
        go_ret2
        exact ⟨rfl, rfl⟩
      · have e : get bs p wd = (Ia.unle ((bs.drop p).take wd), 0) := by unfold get; rw [if_neg (by omega), if_neg (by omega)]; rfl
        rw [e]
        exact refget_ok bs A c p wd w hA (by omega) h1 h8 (by omega)
end Go.Proofs.Ytjhopgmionpkoaa
namespace Go.Proofs.Ytjhopgmionpkoaa
set_option maxRecDepth 20000
open Go.RowKit Mem

/-- the instruction at a place, the place behind it, and the error -/
def readAt (bs : List UInt8) (a : Int) : Ia.Ins × Int × Int :=
  if a < 0 ∨ (bs.length : Int) < a then (Ia.nil, 0, 1)
  else if (Ia.readB (bs.drop a.toNat)).2.2 ≠ 0 then (Ia.nil, 0, (Ia.readB (bs.drop a.toNat)).2.2)
  else ((Ia.readB (bs.drop a.toNat)).1, a + (Ia.readB (bs.drop a.toNat)).2.1, 0)
theorem ret_ins {fn : Func} {R : Ending → World → Prop} {a : Act} {W : World} {g : Nat} {v0 v1 x y : Value} (s t u : Nat) (hr : fn.results = #[.cell s 67, .tmp t, .tmp u])
    (h2 : a.tmps.getD s undef = .pointer (some ⟨g, 0, none⟩)) (h3 : a.tmps.getD t undef = x) (h4 : a.tmps.getD u undef = y) (hd : a.defers = [])
    (c0 : W.cell? ⟨g, 0, none⟩ = some v0) (c1 : W.cell? ⟨g, 1, none⟩ = some v1)
    (hR : R (.returned (.tuple #[.agg #[v0, v1], x, y])) W) : bodyPost Try.prog fn R .ret a W := by
  refine bodyPost_ret ?_ hd hR
  have h2' : a.tmps[s]?.getD undef = .pointer (some ⟨g, 0, none⟩) := by simpa using h2
  have h3' : a.tmps[t]?.getD undef = x := by simpa using h3
  have h4' : a.tmps[u]?.getD undef = y := by simpa using h4
  simp [results, hr, h2', h3', h4', go_sem, c0, c1]
/-- two new blocks of two cells, and what came of a world that only grew -/
theorem two_new {w w1 : World} {a b c d : Value} {t t' : TypeId} (hb : Below ((w.alloc (.cells #[a, b] t)).alloc (.cells #[c, d] t')).heap.size ((w.alloc (.cells #[a, b] t)).alloc (.cells #[c, d] t')) w1) :
    w1.cell? ⟨w.heap.size, 0, none⟩ = some a ∧ w1.cell? ⟨w.heap.size, 1, none⟩ = some b ∧ w1.cell? ⟨w.heap.size + 1, 0, none⟩ = some c ∧ w1.cell? ⟨w.heap.size + 1, 1, none⟩ = some d ∧
    w1.frozen? ⟨w.heap.size, 0, none⟩ = false ∧ w1.frozen? ⟨w.heap.size, 1, none⟩ = false ∧ w1.frozen? ⟨w.heap.size + 1, 0, none⟩ = false ∧ w1.frozen? ⟨w.heap.size + 1, 1, none⟩ = false ∧
    w.heap.size + 1 < w1.heap.size ∧ Below w.heap.size w w1 := by
  have hs : (w.alloc (.cells #[a, b] t)).heap.size = w.heap.size + 1 := by simp
  have h0 : w1.heap[w.heap.size]? = some (.cells #[a, b] t (0, 0)) := by
    rw [hb.block _ (by simp; omega), heap_alloc_old _ _ (by simp), heap_alloc_new]
  have h1 : w1.heap[w.heap.size + 1]? = some (.cells #[c, d] t' (0, 0)) := by
    rw [hb.block _ (by simp), ← hs, heap_alloc_new]
  refine ⟨cell_of_row _ _ 0 _ _ _ h0, cell_of_row _ _ 1 _ _ _ h0, cell_of_row _ _ 0 _ _ _ h1, cell_of_row _ _ 1 _ _ _ h1, by simp [World.frozen?, h0], by simp [World.frozen?, h0], by simp [World.frozen?, h1], by simp [World.frozen?, h1], ?_, ?_⟩
  · have := hb.size; simp at this; omega
  · exact (((Below.refl _ _).alloc (Nat.le_refl _) _).alloc (by simp) _).trans (hb.mono (by simp; omega))
theorem set2 {W : World} {g : Nat} {a b : Value} (x0 x1 : Value) (k0 : W.cell? ⟨g, 0, none⟩ = some a) (k1 : W.cell? ⟨g, 1, none⟩ = some b) :
    ((W.setCell ⟨g, 0, none⟩ x0).setCell ⟨g, 1, none⟩ x1).cell? ⟨g, 0, none⟩ = some x0 ∧ ((W.setCell ⟨g, 0, none⟩ x0).setCell ⟨g, 1, none⟩ x1).cell? ⟨g, 1, none⟩ = some x1 := by
  refine ⟨?_, ?_⟩ <;> simp [go_sem, k0, k1]
theorem get_one (bs : List UInt8) (a : Int) (h : a < 0 ∨ (bs.length : Int) ≤ a) : get bs a 1 = (0, (readAt bs a).2.2) ∧ readAt bs a = (Ia.nil, 0, (readAt bs a).2.2) ∧ (readAt bs a).2.2 ≠ 0 := by
  unfold get readAt
  by_cases h1 : a < 0 ∨ (bs.length : Int) < a
  · rw [if_pos (by omega), if_pos h1]
    exact ⟨rfl, rfl, by decide⟩
  · have ha : a = bs.length := by omega
    subst ha
    rw [if_neg (by omega), if_pos (by omega), if_neg (by omega)]
    have e : (Ia.readB (bs.drop (bs.length : Int).toNat)) = (Ia.nil, 0, 2) := by
      rw [Int.toNat_natCast, List.drop_length]; rfl
    rw [e]
    exact ⟨rfl, rfl, by show (2 : Int) ≠ 0; decide⟩
set_option maxHeartbeats 4000000 in
theorem isaread_bad (bs : List UInt8) (A : Option Addr) (c : Nat) (a : Int) (w : World) (hA : BytesAt w A bs) (hn : bs.length ≤ 4611686018427387904) (ha1 : -9223372036854775808 ≤ a) (ha2 : a ≤ 9223372036854775807)
    (h : a < 0 ∨ (bs.length : Int) ≤ a) :
    Calls Try.prog 86 #[.slice A bs.length c, .int .i64 a] w fun e w' => e = .returned (.tuple #[insAgg (readAt bs a).1, .int .i64 (readAt bs a).2.1, .int .i64 (readAt bs a).2.2]) ∧ Below w.heap.size w w' := by
  have HA := Lib.hid hA
  clear hA
  obtain ⟨h1, h2, h3⟩ := get_one bs a h
  rw [h2]
  have he : ((readAt bs a).2.2 != 0) = true := by rw [bne_iff_ne]; exact h3
  have HG := Lib.hid h1
  clear h2 h3 h h1
  generalize (readAt bs a).2.2 = er at *
  unfold insAgg Ia.nil
  go_enter Try.func86, Try.ntmps86
  go_wp2_with fail
  have hb : Below w.heap.size w (w.alloc (Obj.cells #[Value.int IntKind.i64 0, Value.int IntKind.i32 0] 67)) := (Below.refl _ _).alloc (Nat.le_refl _) _
  refine (octget bs A c a 1 _ (HA.out.below hb (Nat.le_refl _)) hn (by omega) (by omega) ha1 ha2).mono ?_
  rintro e w1 ⟨rfl, rfl⟩
  rw [show ((1 : Nat) : Int) = 1 from rfl, HG.out]
  go_wp2_with fail
  exact ret_ins 4 5 6 rfl rfl rfl rfl rfl (below_new (Below.refl _ _) 0).1 (below_new (Below.refl _ _) 1).1 ⟨rfl, hb⟩
/-- what is read at a place within -/
theorem get_in (bs : List UInt8) (p : Nat) (h : p < bs.length) : get bs p 1 = ((bs[p]'h).toNat, 0) := by
  unfold get
  rw [if_neg (by omega), if_neg (by omega), Int.toNat_natCast, List.drop_eq_getElem_cons h, show ((1 : Int)).toNat = 1 from rfl, List.take_succ_cons, List.take_zero]
  show ((bs[p]'h).toNat + 256 * 0, (0 : Int)) = _
  rfl
theorem get_rest (bs : List UInt8) (p wd : Nat) (h : p < bs.length) (h1 : 1 ≤ wd) (h8 : wd ≤ 8) : get bs ((p : Int) + 1) wd = if (bs.drop (p + 1)).length < wd then (0, 2) else (Ia.unle ((bs.drop (p + 1)).take wd), 0) := by
  unfold get
  rw [if_neg (by omega), List.length_drop]
  by_cases hs : bs.length - (p + 1) < wd
  · rw [if_pos (by omega), if_pos hs]
  · rw [if_neg (by omega), if_neg hs, show ((p : Int) + 1).toNat = p + 1 by omega, show ((wd : Int)).toNat = wd by omega]
theorem readAt_of {bs : List UInt8} {p : Nat} {i : Ia.Ins} {n : Nat} {e : Int} (hp : p ≤ bs.length) (hR : Ia.readB (bs.drop p) = (i, n, e)) : readAt bs p = if e ≠ 0 then (Ia.nil, 0, e) else (i, (p : Int) + n, 0) := by
  unfold readAt
  rw [if_neg (by omega), Int.toNat_natCast, hR]
theorem read_in (bs : List UInt8) (p : Nat) (h : p < bs.length) : readAt bs p =
    if Ia.form (bs[p]'h).toNat = 0 then (Ia.nil, 0, 9)
    else if (bs.drop (p + 1)).length < Ia.form (bs[p]'h).toNat then (Ia.nil, 0, 2)
    else if Ia.right ⟨(bs[p]'h).toNat, Ia.signedN (Ia.unle ((bs.drop (p + 1)).take (Ia.form (bs[p]'h).toNat)))⟩ ≠ 0 then (Ia.nil, 0, Ia.right ⟨(bs[p]'h).toNat, Ia.signedN (Ia.unle ((bs.drop (p + 1)).take (Ia.form (bs[p]'h).toNat)))⟩)
    else (⟨(bs[p]'h).toNat, Ia.signedN (Ia.unle ((bs.drop (p + 1)).take (Ia.form (bs[p]'h).toNat)))⟩, (p : Int) + 1 + Ia.form (bs[p]'h).toNat, 0) := by
  have hd := List.drop_eq_getElem_cons h
  by_cases h1 : Ia.form (bs[p]'h).toNat = 0
  · have hR : Ia.readB (bs.drop p) = (Ia.nil, 0, 9) := by rw [hd]; unfold Ia.readB; dsimp only; rw [if_pos h1]
    rw [if_pos h1, readAt_of (by omega) hR]; rfl
  · rw [if_neg h1]
    by_cases h2 : (bs.drop (p + 1)).length < Ia.form (bs[p]'h).toNat
    · have hR : Ia.readB (bs.drop p) = (Ia.nil, 0, 2) := by rw [hd]; unfold Ia.readB; dsimp only; rw [if_neg h1, if_pos h2]
      rw [if_pos h2, readAt_of (by omega) hR]; rfl
    · rw [if_neg h2]
      by_cases h3 : Ia.right ⟨(bs[p]'h).toNat, Ia.signedN (Ia.unle ((bs.drop (p + 1)).take (Ia.form (bs[p]'h).toNat)))⟩ ≠ 0
      · have hR : Ia.readB (bs.drop p) = (Ia.nil, 0, Ia.right ⟨(bs[p]'h).toNat, Ia.signedN (Ia.unle ((bs.drop (p + 1)).take (Ia.form (bs[p]'h).toNat)))⟩) := by rw [hd]; unfold Ia.readB; dsimp only; rw [if_neg h1, if_neg h2, if_pos h3]
        rw [if_pos h3, readAt_of (by omega) hR, if_pos h3]
      · have hR : Ia.readB (bs.drop p) = (⟨(bs[p]'h).toNat, Ia.signedN (Ia.unle ((bs.drop (p + 1)).take (Ia.form (bs[p]'h).toNat)))⟩, 1 + Ia.form (bs[p]'h).toNat, 0) := by rw [hd]; unfold Ia.readB; dsimp only; rw [if_neg h1, if_neg h2, if_neg h3]
        rw [if_neg h3, readAt_of (by omega) hR, if_neg (by decide), Int.natCast_add, ← Int.add_assoc]; rfl
set_option maxHeartbeats 4000000 in
theorem isaread_in (bs : List UInt8) (A : Option Addr) (c : Nat) (p : Nat) (w : World) (hA : BytesAt w A bs) (hn : bs.length ≤ 4611686018427387904)
    (h : p < bs.length) :
    Calls Try.prog 86 #[.slice A bs.length c, .int .i64 p] w fun e w' => e = .returned (.tuple #[insAgg (readAt bs p).1, .int .i64 (readAt bs p).2.1, .int .i64 (readAt bs p).2.2]) ∧ Below w.heap.size w w' := by
  have HA := Lib.hid hA
  clear hA
  have HG := Lib.hid (get_in bs p h)
  have hr := read_in bs p h
  have hcb : ((bs[p]'h).toNat : Int) ≤ 255 := by have := (bs[p]'h).toNat_lt; omega
  have hgr := get_rest bs p (Ia.form (bs[p]'h).toNat) h
  generalize hcc : (bs[p]'h).toNat = cc at *
  clear hcc
  have hb : Below w.heap.size w (w.alloc (Obj.cells #[Value.int IntKind.i64 0, Value.int IntKind.i32 0] 67)) := (Below.refl _ _).alloc (Nat.le_refl _) _
  by_cases h0 : Ia.form cc = 0
  · rw [if_pos h0] at hr
    rw [hr]
    have H0 := Lib.hid h0
    clear h0 hr hgr
    unfold insAgg Ia.nil
    go_enter Try.func86, Try.ntmps86
    go_wp2_with fail
    refine (octget bs A c p 1 _ (HA.out.below hb (Nat.le_refl _)) hn (by omega) (by omega) (by omega) (by omega)).mono ?_
    rintro e w1 ⟨rfl, rfl⟩
    rw [show ((1 : Nat) : Int) = 1 from rfl, HG.out]
    go_wp2_with fail
    refine (isaform _ _).mono ?_
    rintro e w1 ⟨rfl, rfl⟩
    rw [H0.out]
    go_wp2_with fail
    exact ret_ins 4 5 6 rfl rfl rfl rfl rfl (below_new (Below.refl _ _) 0).1 (below_new (Below.refl _ _) 1).1 ⟨rfl, hb⟩
  · rw [if_neg h0] at hr
    have hf := Ia.form_le cc
    replace hgr := hgr (by omega) (by omega)
    have H0 := Lib.hid h0
    have hw4 : Ia.form cc ≤ 4 := by omega
    have hw1 : 1 ≤ Ia.form cc := by omega
    have hz : ((Ia.form cc : Int) == 0) = false := by rw [beq_eq_false_iff_ne]; omega
    generalize hwd : Ia.form cc = wd at *
    have HW := Lib.hid hwd
    clear hwd h0 hf
    by_cases hs : (bs.drop (p + 1)).length < wd
    · rw [if_pos hs] at hr hgr
      rw [hr]
      have HG2 := Lib.hid hgr
      clear hr hgr
      unfold insAgg Ia.nil
      go_enter Try.func86, Try.ntmps86
      go_wp2_with fail
      refine (octget bs A c p 1 _ (HA.out.below hb (Nat.le_refl _)) hn (by omega) (by omega) (by omega) (by omega)).mono ?_
      rintro e w1 ⟨rfl, rfl⟩
      rw [show ((1 : Nat) : Int) = 1 from rfl, HG.out]
      go_wp2_with fail
      refine (isaform _ _).mono ?_
      rintro e w1 ⟨rfl, rfl⟩
      rw [HW.out]
      go_wp2_with fail
      refine (octget bs A c ((p : Int) + 1) wd _ (HA.out.below hb (Nat.le_refl _)) hn (by omega) (by omega) (by omega) (by omega)).mono ?_
      rintro e w1 ⟨rfl, rfl⟩
      rw [HG2.out]
      go_wp2_with fail
      exact ret_ins 4 5 6 rfl rfl rfl rfl rfl (below_new (Below.refl _ _) 0).1 (below_new (Below.refl _ _) 1).1 ⟨rfl, hb⟩
    · rw [if_neg hs] at hr hgr
      have hU : Ia.unle ((bs.drop (p + 1)).take wd) < 256 ^ 4 := by
        refine Nat.lt_of_lt_of_le (Ia.unle_lt _) (Nat.pow_le_pow_right (by omega) ?_)
        rw [List.length_take]
        omega
      have HG2 := Lib.hid hgr
      generalize hu : Ia.unle ((bs.drop (p + 1)).take wd) = U at *
      clear hgr hu
      have hpl : p + 1 + wd ≤ bs.length := by rw [List.length_drop] at hs; omega
      clear hs
      by_cases h3 : Ia.right ⟨cc, Ia.signedN U⟩ ≠ 0
      · rw [if_pos h3] at hr
        rw [hr]
        have h3b : ((Ia.right ⟨cc, Ia.signedN U⟩) != 0) = true := by rw [bne_iff_ne]; exact h3
        generalize hrt : Ia.right ⟨cc, Ia.signedN U⟩ = rt at *
        have HRT := Lib.hid hrt
        clear hr h3 hrt
        unfold insAgg Ia.nil
        go_enter Try.func86, Try.ntmps86
        go_wp2_with fail
        refine (octget bs A c p 1 _ (HA.out.below hb (Nat.le_refl _)) hn (by omega) (by omega) (by omega) (by omega)).mono ?_
        rintro e w1 ⟨rfl, rfl⟩
        rw [show ((1 : Nat) : Int) = 1 from rfl, HG.out]
        go_wp2_with fail
        refine (isaform _ _).mono ?_
        rintro e w1 ⟨rfl, rfl⟩
        rw [HW.out]
        go_wp2_with fail
        refine (octget bs A c ((p : Int) + 1) wd _ (HA.out.below hb (Nat.le_refl _)) hn (by omega) (by omega) (by omega) (by omega)).mono ?_
        rintro e w1 ⟨rfl, rfl⟩
        rw [HG2.out]
        go_wp2_with fail
        refine (octsigned U (by omega) _).mono ?_
        rintro e w1 ⟨rfl, rfl⟩
        go_wp2_with fail
        refine (isaright ⟨cc, Ia.signedN U⟩ _).mono ?_
        rintro e w1 ⟨rfl, hb1⟩
        rw [HRT.out]
        obtain ⟨k0, k1, k2, k3, f0, f1, f2, f3, hz1, hb1⟩ := two_new hb1
        have HB1 := Lib.hid hb1
        clear hb1
        go_wp2_with fail
        obtain ⟨e0, e1⟩ := set2 (.int .i64 0) (.int .i32 0) k0 k1
        exact ret_ins 4 5 6 rfl rfl rfl rfl rfl e0 e1 ⟨rfl, (HB1.out.setCell (Nat.le_refl _) _).setCell (Nat.le_refl _) _⟩
      · rw [if_neg h3] at hr
        rw [hr]
        have hrt : Ia.right ⟨cc, Ia.signedN U⟩ = 0 := by omega
        have HRT := Lib.hid hrt
        clear hr h3 hrt
        unfold insAgg
        go_enter Try.func86, Try.ntmps86
        go_wp2_with fail
        refine (octget bs A c p 1 _ (HA.out.below hb (Nat.le_refl _)) hn (by omega) (by omega) (by omega) (by omega)).mono ?_
        rintro e w1 ⟨rfl, rfl⟩
        rw [show ((1 : Nat) : Int) = 1 from rfl, HG.out]
        go_wp2_with fail
        refine (isaform _ _).mono ?_
        rintro e w1 ⟨rfl, rfl⟩
        rw [HW.out]
        go_wp2_with fail
        refine (octget bs A c ((p : Int) + 1) wd _ (HA.out.below hb (Nat.le_refl _)) hn (by omega) (by omega) (by omega) (by omega)).mono ?_
        rintro e w1 ⟨rfl, rfl⟩
        rw [HG2.out]
        go_wp2_with fail
        refine (octsigned U (by omega) _).mono ?_
        rintro e w1 ⟨rfl, rfl⟩
        go_wp2_with fail
        refine (isaright ⟨cc, Ia.signedN U⟩ _).mono ?_
        rintro e w1 ⟨rfl, hb1⟩
        rw [HRT.out]
        obtain ⟨k0, k1, k2, k3, f0, f1, f2, f3, hz1, hb1⟩ := two_new hb1
        have HB1 := Lib.hid hb1
        clear hb1
        go_wp2_with fail
        obtain ⟨e0, e1⟩ := set2 (.int .i64 cc) (.int .i32 (Ia.signedN U)) k0 k1
        exact ret_ins 4 5 6 rfl rfl rfl rfl rfl e0 e1 ⟨rfl, (HB1.out.setCell (Nat.le_refl _) _).setCell (Nat.le_refl _) _⟩
/-- the instruction at any place -/
theorem isaread (bs : List UInt8) (A : Option Addr) (c : Nat) (a : Int) (w : World) (hA : BytesAt w A bs) (hn : bs.length ≤ 4611686018427387904) (ha1 : -9223372036854775808 ≤ a) (ha2 : a ≤ 9223372036854775807) :
    Calls Try.prog 86 #[.slice A bs.length c, .int .i64 a] w fun e w' => e = .returned (.tuple #[insAgg (readAt bs a).1, .int .i64 (readAt bs a).2.1, .int .i64 (readAt bs a).2.2]) ∧ Below w.heap.size w w' := by
  by_cases h : a < 0 ∨ (bs.length : Int) ≤ a
  · exact isaread_bad bs A c a w hA hn ha1 ha2 h
  · obtain ⟨p, rfl⟩ := Int.eq_ofNat_of_zero_le (show 0 ≤ a by omega)
    exact isaread_in bs A c p w hA hn (by omega)
end Go.Proofs.Ytjhopgmionpkoaa
namespace Go.Proofs.Ytjhopgmionpkoaa
set_option maxRecDepth 20000
open Go.RowKit Mem

set_option maxHeartbeats 4000000 in
theorem refsigned_lo (x : Int) (h0 : 0 ≤ x) (h1 : x < 2147483648) (w : World) :
    Calls Try.prog 71 #[.int .u32 x] w fun e w' => e = .returned (.int .i32 x) ∧ w = w' := by
  go_enter Try.func71, Try.ntmps71
  go_wp2_with fail
  go_ret
  first | exact ⟨rfl, rfl⟩ | (refine ⟨ret_int ?_, rfl⟩; unfold wrap32; omega)
set_option maxHeartbeats 4000000 in
theorem refsigned_hi (x : Int) (h0 : 2147483648 ≤ x) (h1 : x < 4294967296) (w : World) :
    Calls Try.prog 71 #[.int .u32 x] w fun e w' => e = .returned (.int .i32 (x - 4294967296)) ∧ w = w' := by
  go_enter Try.func71, Try.ntmps71
  go_wp2_with fail
  go_ret
  first | exact ⟨rfl, rfl⟩ | (refine ⟨ret_int ?_, rfl⟩; unfold wrap32; omega)
theorem refsigned (u : Nat) (h : u < 4294967296) (w : World) :
    Calls Try.prog 71 #[.int .u32 u] w fun e w' => e = .returned (.int .i32 (Ia.signedN u)) ∧ w = w' := by
  unfold Ia.signedN
  split
  · exact refsigned_lo u (by omega) (by omega) w
  · exact refsigned_hi u (by omega) (by omega) w
set_option maxHeartbeats 4000000 in
theorem refread_bad (bs : List UInt8) (A : Option Addr) (c : Nat) (a : Int) (w : World) 
    (h : a < 0 ∨ (bs.length : Int) ≤ a) :
    Calls Try.prog 89 #[.slice A bs.length c, .int .i64 a] w fun e w' => e = .returned (.tuple #[insAgg (readAt bs a).1, .int .i64 (readAt bs a).2.1, .int .i64 (readAt bs a).2.2]) ∧ Below w.heap.size w w' := by
  have hb : Below w.heap.size w (w.alloc (Obj.cells #[Value.int IntKind.i64 0, Value.int IntKind.i32 0] 67)) := (Below.refl _ _).alloc (Nat.le_refl _) _
  by_cases h1 : a < 0
  · have e : readAt bs a = (Ia.nil, 0, 1) := by unfold readAt; rw [if_pos (.inl h1)]
    rw [e]
    unfold insAgg Ia.nil
    go_enter Try.func89, Try.ntmps89
    go_wp2_with fail
    exact ret_ins 4 5 6 rfl rfl rfl rfl rfl (below_new (Below.refl _ _) 0).1 (below_new (Below.refl _ _) 1).1 ⟨rfl, hb⟩
  · by_cases h2 : (bs.length : Int) < a
    · have e : readAt bs a = (Ia.nil, 0, 1) := by unfold readAt; rw [if_pos (.inr h2)]
      rw [e]
      unfold insAgg Ia.nil
      go_enter Try.func89, Try.ntmps89
      go_wp2_with fail
      exact ret_ins 4 5 6 rfl rfl rfl rfl rfl (below_new (Below.refl _ _) 0).1 (below_new (Below.refl _ _) 1).1 ⟨rfl, hb⟩
    · obtain rfl : a = bs.length := by omega
      have e : readAt bs (bs.length : Int) = (Ia.nil, 0, 2) := by
        rw [readAt_of (Nat.le_refl _) (i := Ia.nil) (n := 0) (e := 2) (by rw [List.drop_length]; rfl)]; rfl
      rw [e]
      unfold insAgg Ia.nil
      go_enter Try.func89, Try.ntmps89
      go_wp2_with fail
      exact ret_ins 4 5 6 rfl rfl rfl rfl rfl (below_new (Below.refl _ _) 0).1 (below_new (Below.refl _ _) 1).1 ⟨rfl, hb⟩
set_option maxHeartbeats 4000000 in
theorem refread_in (bs : List UInt8) (A : Option Addr) (c : Nat) (p : Nat) (w : World) (hA : BytesAt w A bs) (hn : bs.length ≤ 4611686018427387904)
    (h : p < bs.length) :
    Calls Try.prog 89 #[.slice A bs.length c, .int .i64 p] w fun e w' => e = .returned (.tuple #[insAgg (readAt bs p).1, .int .i64 (readAt bs p).2.1, .int .i64 (readAt bs p).2.2]) ∧ Below w.heap.size w w' := by
  have HA := Lib.hid hA
  clear hA
  have hr := read_in bs p h
  have hcb : ((bs[p]'h).toNat : Int) ≤ 255 := by have := (bs[p]'h).toNat_lt; omega
  have hgr := get_rest bs p (Ia.form (bs[p]'h).toNat) h
  have hb : Below w.heap.size w (w.alloc (Obj.cells #[Value.int IntKind.i64 0, Value.int IntKind.i32 0] 67)) := (Below.refl _ _).alloc (Nat.le_refl _) _
  obtain ⟨bk, off, rfl, cl⟩ := HA.out.below hb (Nat.le_refl _) p h
  generalize hcc : (bs[p]'h).toNat = cc at *
  clear hcc
  by_cases h0 : Ia.form cc = 0
  · rw [if_pos h0] at hr
    rw [hr]
    have H0 := Lib.hid h0
    clear h0 hr hgr
    unfold insAgg Ia.nil
    go_enter Try.func89, Try.ntmps89
    go_wp2_with fail
    refine (refwidth _ _).mono ?_
    rintro e w1 ⟨rfl, rfl⟩
    rw [H0.out]
    go_wp2_with fail
    exact ret_ins 4 5 6 rfl rfl rfl rfl rfl (below_new (Below.refl _ _) 0).1 (below_new (Below.refl _ _) 1).1 ⟨rfl, hb⟩
  · rw [if_neg h0] at hr
    have hf := Ia.form_le cc
    replace hgr := hgr (by omega) (by omega)
    have H0 := Lib.hid h0
    have hw4 : Ia.form cc ≤ 4 := by omega
    have hw1 : 1 ≤ Ia.form cc := by omega
    have hz : ((Ia.form cc : Int) == 0) = false := by rw [beq_eq_false_iff_ne]; omega
    generalize hwd : Ia.form cc = wd at *
    have HW := Lib.hid hwd
    clear hwd h0 hf
    by_cases hs : (bs.drop (p + 1)).length < wd
    · rw [if_pos hs] at hr hgr
      rw [hr]
      have HG2 := Lib.hid hgr
      clear hr hgr
      unfold insAgg Ia.nil
      go_enter Try.func89, Try.ntmps89
      go_wp2_with fail
      refine (refwidth _ _).mono ?_
      rintro e w1 ⟨rfl, rfl⟩
      rw [HW.out]
      go_wp2_with fail
      refine (refget bs _ c ((p : Int) + 1) wd _ (HA.out.below hb (Nat.le_refl _)) hn (by omega) (by omega) (by omega) (by omega)).mono ?_
      rintro e w1 ⟨rfl, rfl⟩
      rw [HG2.out]
      go_wp2_with fail
      exact ret_ins 4 5 6 rfl rfl rfl rfl rfl (below_new (Below.refl _ _) 0).1 (below_new (Below.refl _ _) 1).1 ⟨rfl, hb⟩
    · rw [if_neg hs] at hr hgr
      have hU : Ia.unle ((bs.drop (p + 1)).take wd) < 256 ^ 4 := by
        refine Nat.lt_of_lt_of_le (Ia.unle_lt _) (Nat.pow_le_pow_right (by omega) ?_)
        rw [List.length_take]
        omega
      have HG2 := Lib.hid hgr
      generalize hu : Ia.unle ((bs.drop (p + 1)).take wd) = U at *
      clear hgr hu
      have hpl : p + 1 + wd ≤ bs.length := by rw [List.length_drop] at hs; omega
      clear hs
      by_cases h3 : Ia.right ⟨cc, Ia.signedN U⟩ ≠ 0
      · rw [if_pos h3] at hr
        rw [hr]
        have h3b : ((Ia.right ⟨cc, Ia.signedN U⟩) != 0) = true := by rw [bne_iff_ne]; exact h3
        generalize hrt : Ia.right ⟨cc, Ia.signedN U⟩ = rt at *
        have HRT := Lib.hid hrt
        clear hr h3 hrt
        unfold insAgg Ia.nil
        go_enter Try.func89, Try.ntmps89
        go_wp2_with fail
        refine (refwidth _ _).mono ?_
        rintro e w1 ⟨rfl, rfl⟩
        rw [HW.out]
        go_wp2_with fail
        refine (refget bs _ c ((p : Int) + 1) wd _ (HA.out.below hb (Nat.le_refl _)) hn (by omega) (by omega) (by omega) (by omega)).mono ?_
        rintro e w1 ⟨rfl, rfl⟩
        rw [HG2.out]
        go_wp2_with fail
        refine (refsigned U (by omega) _).mono ?_
        rintro e w1 ⟨rfl, rfl⟩
        go_wp2_with fail
        refine (refright ⟨cc, Ia.signedN U⟩ _).mono ?_
        rintro e w1 ⟨rfl, hb1⟩
        rw [HRT.out]
        obtain ⟨k0, k1, k2, k3, f0, f1, f2, f3, hz1, hb1⟩ := two_new hb1
        have HB1 := Lib.hid hb1
        clear hb1
        go_wp2_with fail
        obtain ⟨e0, e1⟩ := set2 (.int .i64 0) (.int .i32 0) k0 k1
        exact ret_ins 4 5 6 rfl rfl rfl rfl rfl e0 e1 ⟨rfl, (HB1.out.setCell (Nat.le_refl _) _).setCell (Nat.le_refl _) _⟩
      · rw [if_neg h3] at hr
        rw [hr]
        have hrt : Ia.right ⟨cc, Ia.signedN U⟩ = 0 := by omega
        have HRT := Lib.hid hrt
        clear hr h3 hrt
        unfold insAgg
        go_enter Try.func89, Try.ntmps89
        go_wp2_with fail
        refine (refwidth _ _).mono ?_
        rintro e w1 ⟨rfl, rfl⟩
        rw [HW.out]
        go_wp2_with fail
        refine (refget bs _ c ((p : Int) + 1) wd _ (HA.out.below hb (Nat.le_refl _)) hn (by omega) (by omega) (by omega) (by omega)).mono ?_
        rintro e w1 ⟨rfl, rfl⟩
        rw [HG2.out]
        go_wp2_with fail
        refine (refsigned U (by omega) _).mono ?_
        rintro e w1 ⟨rfl, rfl⟩
        go_wp2_with fail
        refine (refright ⟨cc, Ia.signedN U⟩ _).mono ?_
        rintro e w1 ⟨rfl, hb1⟩
        rw [HRT.out]
        obtain ⟨k0, k1, k2, k3, f0, f1, f2, f3, hz1, hb1⟩ := two_new hb1
        have HB1 := Lib.hid hb1
        clear hb1
        go_wp2_with fail
        obtain ⟨e0, e1⟩ := set2 (.int .i64 cc) (.int .i32 (Ia.signedN U)) k0 k1
        exact ret_ins 4 5 6 rfl rfl rfl rfl rfl e0 e1 ⟨rfl, (HB1.out.setCell (Nat.le_refl _) _).setCell (Nat.le_refl _) _⟩
/-- the instruction at any place -/
theorem refread (bs : List UInt8) (A : Option Addr) (c : Nat) (a : Int) (w : World) (hA : BytesAt w A bs) (hn : bs.length ≤ 4611686018427387904) (ha1 : -9223372036854775808 ≤ a) (ha2 : a ≤ 9223372036854775807) :
    Calls Try.prog 89 #[.slice A bs.length c, .int .i64 a] w fun e w' => e = .returned (.tuple #[insAgg (readAt bs a).1, .int .i64 (readAt bs a).2.1, .int .i64 (readAt bs a).2.2]) ∧ Below w.heap.size w w' := by
  by_cases h : a < 0 ∨ (bs.length : Int) ≤ a
  · exact refread_bad bs A c a w h
  · obtain ⟨p, rfl⟩ := Int.eq_ofNat_of_zero_le (show 0 ≤ a by omega)
    exact refread_in bs A c p w hA hn (by omega)
end Go.Proofs.Ytjhopgmionpkoaa
namespace Go.Proofs.Ytjhopgmionpkoaa
set_option maxRecDepth 20000
open Go.RowKit Mem

theorem le_take_succ : ∀ (wd n k : Nat), k < wd → (Ia.le wd n).take (k + 1) = (Ia.le wd n).take k ++ [UInt8.ofNat (n / 256 ^ k % 256)]
  | 0, _, _, h => absurd h (Nat.not_lt_zero _)
  | wd + 1, n, 0, _ => by simp [Ia.le]
  | wd + 1, n, k + 1, h => by
    have e : n / 256 / 256 ^ k = n / 256 ^ (k + 1) := by rw [Nat.div_div_eq_div_mul, Nat.pow_succ, Nat.mul_comm]
    simp only [Ia.le, List.take_succ_cons, List.cons_append, le_take_succ wd (n / 256) k (by omega), e]
theorem byte_out (n k : Nat) : ((n : Int) / 2 ^ (8 * k) % 256) = ((UInt8.ofNat (n / 256 ^ k % 256)).toNat : Int) := by
  have e : (256 : Nat) ^ k = 2 ^ (8 * k) := by rw [Nat.pow_mul]
  have h2 : ((n : Int) / 2 ^ (8 * k)) = ((n / 2 ^ (8 * k) : Nat) : Int) := by simp
  rw [h2, e]
  generalize n / 2 ^ (8 * k) = q
  rw [UInt8.toNat_ofNat']
  omega
theorem shift_out (n wd : Nat) (hf : n < 256 ^ wd) : ((n : Int) / 2 ^ (8 * wd) != 0) = false := by
  have e : (256 : Nat) ^ wd = 2 ^ (8 * wd) := by rw [Nat.pow_mul]
  rw [e] at hf
  have h2 : ((n : Int) / 2 ^ (8 * wd)) = ((n / 2 ^ (8 * wd) : Nat) : Int) := by simp
  rw [h2, Nat.div_eq_of_lt hf]
  rfl
set_option maxHeartbeats 4000000 in
theorem octput (bs : List UInt8) (A : Option Addr) (c wd n : Nat) (w : World) (hA : BytesAt w A bs) (hn : bs.length ≤ 1099511627776) (h1 : 1 ≤ wd) (h8 : wd < 8) (hf : n < 256 ^ wd) :
    Calls Try.prog 46 #[.slice A bs.length c, .int .i64 wd, .int .u64 n] w fun e w' => ∃ v, e = .returned (.tuple #[v, .int .i64 0]) ∧ w'.ownsRow w.heap.size 5 1 v (bs.length + wd) (bcells (bs ++ Ia.le wd n)) ∧ Below w.heap.size w w' := by
  have HA := Lib.hid hA
  have hz := shift_out n wd hf
  have HF := Lib.hid hf
  clear hA hf
  obtain ⟨Z, hZ, hmk⟩ := make_bytes bs.length wd (by omega)
  have hsz1 : (Try.prog.info? 5).map (·.size) = some 1 := by kernel_rfl
  have hb0 : ∀ o, Below w.heap.size w (w.alloc o) := fun o => (Below.refl _ _).alloc (Nat.le_refl _) o
  go_enter Try.func46, Try.ntmps46
  go_wp2_with (with_reducible refine wpList_copy_splice rfl (.tmp 33) (.tmp 34) 31 31 rfl 5 Try.underlying31 hsz1 _ _ _ _ _ _ rfl rfl w.heap.size 0 Z 5 ?g (bcells bs) ?n ?pos ?fit (bcells_one bs) w.heap.size w ?b (Nat.le_refl _) ?_)
  case g => exact heap_alloc_new _ _
  case b => exact hb0 _
  case n => rw [bcells_length]; exact (Nat.min_self _).symm
  case pos =>
    intro h0
    rw [bcells_length] at h0
    exact (HA.out.below (hb0 _) (Nat.le_refl _)).src h0
  case fit => rw [bcells_length]; omega
  intro w2 HG2 hB2
  have hown : w2.ownsRow w.heap.size 5 1 (.slice (some ⟨w.heap.size, 0, none⟩) bs.length (bs.length + wd)) (bs.length + 0) (bcells (bs ++ (Ia.le wd n).take 0)) := by
    refine ⟨by simp [bcells_length], .inr ⟨w.heap.size, bs.length + wd, _, rfl, Nat.le_refl _, HG2.out, by omega, by unfold maxLen; omega, ?_, ?_⟩⟩
    · simp [splice, bcells_length, hZ]
    · simp [splice, bcells_length]
  have HO := Lib.hid hown
  have HB := Lib.hid hB2
  clear hown hB2 HG2
  obtain ⟨i0, hi, hi0, hi1, hi2⟩ := info_parts infoByte
  go_wp2_with fail
  go_loopw [8, 37] (fun v i wr => ∃ k : Nat, k ≤ wd ∧ i = .int .i64 k ∧ Hid (wr.ownsRow w.heap.size 5 1 v (bs.length + k) (bcells (bs ++ (Ia.le wd n).take k))) ∧ Hid (Below w.heap.size w wr)) (fun _ i _ => wd - (intOf i).toNat)
  case atStart => exact ⟨0, Nat.zero_le _, rfl, HO, HB⟩
  case round =>
    obtain ⟨k, hk, rfl, hO, hB⟩ := hrel
    by_cases hlt : k < wd
    · have HL := Lib.hid (le_take_succ wd n k hlt)
      have hwz : wr.heap.size ≤ wr.heap.size := Nat.le_refl _
      have hbz := hB.out.size
      go_wp2_with ((at_builtin; refine wpList_append_own _ rfl _ _ 31 rfl w.heap.size 5 i0 (.int .u8 0) 1 1 Try.underlying31 hi hi0 hi1 hi2 rfl (by decide) _ _ _ rfl (hO.out.alloc _) ⟨wr.heap.size, 0, none⟩ 1 1 [.int .u8 ((n : Int) / 2 ^ (8 * k) % 256)] rfl rfl ?c1 ?c2 ?c3 ?c4 ?c5 ?_))
      case c1 => exact cells_new _ _ _ _ rfl
      case c2 => intro u hu; rw [List.mem_singleton] at hu; subst hu; rfl
      case c3 => unfold maxLen; omega
      case c4 => omega
      case c5 => simp; omega
      intro v' w3 hown3 hgrow _
      have HB3 : Hid (Below w.heap.size w w3) := (hB.out.alloc hB.out.size _).grown hgrow (by simp; omega) (fun b hb => (hO.out.lt b hb).1)
      have hcell : bcells (bs ++ (Ia.le wd n).take (k + 1)) = bcells (bs ++ (Ia.le wd n).take k) ++ [.int .u8 ((n : Int) / 2 ^ (8 * k) % 256)] := by
        rw [HL.out, ← List.append_assoc, bcells_append _ [_], byte_out n k]
        rfl
      rw [← hcell] at hown3
      have HO3 := Lib.hid hown3
      clear hown3 hgrow hcell
      go_wp2_with fail
      go_roundw
      case rel => exact ⟨k + 1, by omega, by go_num, HO3, HB3⟩
      case measure => simp [intOf]; omega
    · obtain rfl : k = wd := by omega
      have hO2 := hO.out
      rw [List.take_of_length_le (by rw [Ia.le_length]; exact Nat.le_refl _)] at hO2
      have HO2 := Lib.hid hO2
      clear hO2 hO
      go_wp2_with fail
      go_ret2
      exact ⟨_, rfl, HO2.out, hB.out⟩
end Go.Proofs.Ytjhopgmionpkoaa
namespace Go.Proofs.Ytjhopgmionpkoaa
set_option maxRecDepth 20000
open Go.RowKit Mem

theorem plain_lt (n : Int) : Ia.plainN n < 4294967296 := by unfold Ia.plainN; omega
theorem right_plain {i : Ia.Ins} (h : Ia.right i = 0) : Ia.plainN i.n < 256 ^ Ia.form i.op := by
  have hp := plain_lt i.n
  unfold Ia.right at h
  unfold Ia.form Ia.most at h
  unfold Ia.form
  unfold Ia.plainN at *
  repeat' split at h
  all_goals (try omega)
  all_goals (repeat' split)
  all_goals (try omega)
theorem w64_nat {n : Nat} (h : n < 18446744073709551616) : IntKind.u64.wrap (n : Int) = n := by
  simp only [IntKind.wrap_u64]; omega
theorem w8_op {i : Ia.Ins} (h : Ia.right i = 0) : IntKind.u8.wrap i.op = ((UInt8.ofNat i.op.toNat).toNat : Int) := by
  have ho := Ia.form_op (Ia.right_form h)
  rw [UInt8.toNat_ofNat']
  simp only [IntKind.wrap_u8]
  omega
theorem one_at (W : World) (c : UInt8) (t : TypeId) : BytesAt ((W.alloc (.cells #[.int .u8 (c.toNat : Int)] t)).drew) (some ⟨W.heap.size, 0, none⟩) [c] := by
  intro k hk
  refine ⟨W.heap.size, 0, rfl, ?_⟩
  obtain rfl : k = 0 := by simpa using hk
  exact (below_new (Below.refl _ _) 0).1
set_option maxHeartbeats 4000000 in
theorem isabytes_bad (i : Ia.Ins) (w : World) (h : Ia.right i ≠ 0) :
    Calls Try.prog 81 #[insAgg i] w fun e w' => e = .returned (.tuple #[.slice none 0 0, .int .i64 (Ia.right i)]) ∧ Below w.heap.size w w' := by
  have hb : ((Ia.right i) != 0) = true := by rw [bne_iff_ne]; exact h
  have HR := Lib.hid (isaright i)
  clear h
  unfold insAgg at *
  generalize Ia.right i = rt at *
  go_enter Try.func81, Try.ntmps81
  go_wp2_with fail
  refine (HR.out _).mono ?_
  rintro e w1 ⟨rfl, hb1⟩
  obtain ⟨_, hbu⟩ := below_up hb1
  clear hb1
  go_wp2_with fail
  go_ret2
  exact ⟨rfl, hbu⟩
set_option maxHeartbeats 4000000 in
theorem isabytes_ok (i : Ia.Ins) (w : World) (h : Ia.right i = 0) (h1 : -2147483648 ≤ i.n) (h2 : i.n ≤ 2147483647) :
    Calls Try.prog 81 #[insAgg i] w fun e w' => ∃ v, e = .returned (.tuple #[v, .int .i64 0]) ∧ w'.ownsRow w.heap.size 5 1 v (1 + Ia.form i.op) (bcells (Ia.bytesOf i)) ∧ Below w.heap.size w w' := by
  have HR := Lib.hid (isaright i)
  rw [h] at HR
  have HP := Lib.hid (right_plain h)
  have HW := Lib.hid (w64_nat (Nat.lt_trans (plain_lt i.n) (by decide)))
  have HO := Lib.hid (w8_op h)
  have hf1 := Ia.right_form h
  have hf4 := Ia.form_le i.op
  have hfa : 1 ≤ Ia.form i.op := by omega
  have hfb : Ia.form i.op < 8 := by omega
  clear h hf1 hf4
  unfold insAgg at *
  go_enter Try.func81, Try.ntmps81
  go_wp2_with fail
  refine (HR.out _).mono ?_
  rintro e w1 ⟨rfl, hb1⟩
  obtain ⟨hs1, hbu⟩ := below_up hb1
  have k0 := (below_new hb1 0).1
  have k1 := (below_new hb1 1).1
  have HB := Lib.hid hbu
  clear hb1 hbu
  simp at k0 k1
  go_wp2_with fail
  go_region_held3 (fun w' => w'.cell? ⟨w.heap.size, 0, none⟩ = some (.int .i64 i.op) ∧ w'.cell? ⟨w.heap.size, 1, none⟩ = some (.int .i32 i.n)) (go_keep)
    (first
      | (go_at_call 93; refine (isaform _ _).mono ?_; rintro e w' ⟨rfl, rfl⟩)
      | (go_at_call 49; refine (octplain _ h1 h2 _).mono ?_; rintro e w' ⟨rfl, rfl⟩)
      | (go_at_call 46; rw [HW.out, HO.out]; refine (octput [UInt8.ofNat i.op.toNat] _ 1 (Ia.form i.op) (Ia.plainN i.n) _ (one_at _ _ _) (by simp) hfa hfb HP.out).mono ?_; rintro e w2 ⟨v, rfl, hown, hb2⟩; have HO2 := Lib.hid hown; have k2 := (hb2.cell (p := ⟨w.heap.size, 0, none⟩) (by simp; omega)); have k3 := (hb2.cell (p := ⟨w.heap.size, 1, none⟩) (by simp; omega)); have HB2 := Lib.hid hb2; clear hown hb2; simp [go_sem] at k2 k3))
  all_goals
    go_wp2_with fail
    go_ret2
    refine ⟨_, rfl, own_base HO2.out (by simp; omega), ?_⟩
    exact (below_drewN (HB.out.alloc HB.out.size _) 1).trans (HB2.out.mono (by simp; omega))
end Go.Proofs.Ytjhopgmionpkoaa
namespace Go.Proofs.Ytjhopgmionpkoaa
set_option maxRecDepth 20000
open Go.RowKit Mem

/-- the plain law of the loop -/
def DecInv (bs : Ia.Bs) (done : List Ia.Ins) (p : Nat) : Prop :=
  p ≤ bs.length ∧ done.length ≤ 600 ∧ Ia.decode bs = if (Ia.decL bs.length done.length (bs.drop p)).2.1 ≠ 0 then ([], (Ia.decL bs.length done.length (bs.drop p)).2.1, (Ia.decL bs.length done.length (bs.drop p)).2.2) else (done ++ (Ia.decL bs.length done.length (bs.drop p)).1, 0, 0)
theorem decF_form (N : Nat) : ∀ (f k : Nat) (l : Ia.Bs), if (Ia.decF N f k l).2.1 ≠ 0 then (Ia.decF N f k l).1 = [] else (Ia.decF N f k l).2.2 = 0
  | 0, _, _ => by simp [Ia.decF]
  | f + 1, k, l => by
    unfold Ia.decF
    by_cases h1 : l = []
    · simp [h1]
    · rw [if_neg h1]
      by_cases h2 : k = 600
      · simp [h2]
      · rw [if_neg h2]
        simp only
        by_cases h3 : (Ia.readB l).2.2 ≠ 0
        · simp [h3]
        · rw [if_neg h3]
          by_cases h4 : (Ia.decF N f (k + 1) (l.drop (Ia.readB l).2.1)).2.1 ≠ 0
          · rw [if_pos h4]; simp [h4]
          · rw [if_neg h4]; simp
theorem DecInv.start (bs : Ia.Bs) : DecInv bs [] 0 := by
  refine ⟨Nat.zero_le _, by simp, ?_⟩
  rw [List.drop_zero]
  show Ia.decF bs.length (bs.length + 1) 0 bs = _
  have h := decF_form bs.length (bs.length + 1) 0 bs
  unfold Ia.decL
  rw [List.length_nil]
  generalize Ia.decF bs.length (bs.length + 1) 0 bs = r at *
  obtain ⟨a, b, c⟩ := r
  simp only at h ⊢
  by_cases hb : b ≠ 0
  · rw [if_pos hb] at h ⊢; rw [h]
  · rw [if_neg hb] at h ⊢
    have : b = 0 := by omega
    subst this h
    simp
theorem DecInv.done {bs : Ia.Bs} {done : List Ia.Ins} (h : DecInv bs done bs.length) : Ia.decode bs = (done, 0, 0) := by
  rw [h.2.2, List.drop_length, Ia.decL_nil]
  simp
theorem drop_ne {bs : Ia.Bs} {p : Nat} (hp : p < bs.length) : bs.drop p ≠ [] := by
  intro h
  have := congrArg List.length h
  rw [List.length_drop] at this
  simp at this
  omega
theorem DecInv.big {bs : Ia.Bs} {done : List Ia.Ins} {p : Nat} (h : DecInv bs done p) (hp : p < bs.length) (hd : done.length = 600) : Ia.decode bs = ([], 3, (p : Int)) := by
  rw [h.2.2, hd, Ia.decL_big _ (drop_ne hp), List.length_drop]
  simp
  omega
theorem DecInv.bad {bs : Ia.Bs} {done : List Ia.Ins} {p : Nat} (h : DecInv bs done p) (hp : p < bs.length) (hd : done.length ≠ 600) (he : (Ia.readB (bs.drop p)).2.2 ≠ 0) : Ia.decode bs = ([], (Ia.readB (bs.drop p)).2.2, (p : Int)) := by
  rw [h.2.2, Ia.decL_bad _ (drop_ne hp) hd he, List.length_drop]
  rw [if_pos he]
  dsimp only
  rw [show (bs.length : Int) - ((bs.length - p : Nat) : Int) = p by omega]
theorem DecInv.step {bs : Ia.Bs} {done : List Ia.Ins} {p : Nat} (h : DecInv bs done p) (hp : p < bs.length) (hd : done.length ≠ 600) (he : (Ia.readB (bs.drop p)).2.2 = 0) :
    DecInv bs (done ++ [(Ia.readB (bs.drop p)).1]) (p + (Ia.readB (bs.drop p)).2.1) ∧ 0 < (Ia.readB (bs.drop p)).2.1 := by
  have hl := Ia.readB_len he
  rw [List.length_drop] at hl
  refine ⟨⟨by omega, by have := h.2.1; simp; omega, ?_⟩, hl.1⟩
  rw [h.2.2, Ia.decL_good _ (drop_ne hp) hd he, List.drop_drop, List.length_append, List.length_singleton]
  generalize Ia.decL bs.length (done.length + 1) (bs.drop (p + (Ia.readB (bs.drop p)).2.1)) = r
  by_cases hr : r.2.1 ≠ 0
  · rw [if_pos hr, if_pos hr, if_pos hr]
  · rw [if_neg hr, if_neg hr]; simp
theorem readAt_bad {bs : Ia.Bs} {p : Nat} (hp : p < bs.length) (he : (Ia.readB (bs.drop p)).2.2 ≠ 0) : readAt bs p = (Ia.nil, 0, (Ia.readB (bs.drop p)).2.2) := by
  unfold readAt
  rw [if_neg (by omega), Int.toNat_natCast, if_pos he]
theorem readAt_good {bs : Ia.Bs} {p : Nat} (hp : p < bs.length) (he : (Ia.readB (bs.drop p)).2.2 = 0) : readAt bs p = ((Ia.readB (bs.drop p)).1, ((p + (Ia.readB (bs.drop p)).2.1 : Nat) : Int), 0) := by
  unfold readAt
  rw [if_neg (by omega), Int.toNat_natCast, if_neg (by omega)]
  simp
set_option maxHeartbeats 4000000 in
theorem isadecode (bs : List UInt8) (A : Option Addr) (c : Nat) (w : World) (hA : BytesAt w A bs) (hn : bs.length ≤ 140737488351232) :
    Calls Try.prog 68 #[.slice A bs.length c] w fun e w' => ∃ v, e = .returned (.tuple #[v, .int .i64 (Ia.decode bs).2.1, .int .i64 (Ia.decode bs).2.2]) ∧ w'.ownsRow w.heap.size 67 2 v (Ia.decode bs).1.length (insCells (Ia.decode bs).1) ∧ Below w.heap.size w w' := by
  have HA := Lib.hid hA
  clear hA
  obtain ⟨i0, hi, hi0, hi1, hi2⟩ := info_parts infoIns
  go_enter Try.func68, Try.ntmps68
  go_wp2_with fail
  go_loopw [5, 6] (fun v i wr => ∃ (p : Nat) (done : List Ia.Ins), i = .int .i64 p ∧ Hid (DecInv bs done p) ∧ p ≤ bs.length ∧ done.length ≤ 600 ∧ Hid (wr.ownsRow w.heap.size 67 2 v done.length (insCells done)) ∧ Hid (Below w.heap.size w wr)) (fun _ i _ => bs.length - (intOf i).toNat)
  case atStart => exact ⟨0, [], rfl, DecInv.start bs, Nat.zero_le _, by simp, World.ownsRow_nil _ _ _ _, Below.refl _ _⟩
  case round =>
    obtain ⟨p, done, rfl, hI, hp, hd, hO, hB⟩ := hrel
    rcases own_slice hO.out with ⟨A2, c2, rfl⟩
    by_cases hlt : p < bs.length
    · by_cases h600 : done.length = 600
      · have hf := hI.out.big hlt h600
        have HF := Lib.hid hf
        have hb : ((done.length : Int) == 600) = true := by rw [beq_iff_eq]; omega
        clear hf h600
        go_wp2_with fail
        go_ret3
        rw [HF.out]
        exact ⟨_, rfl, World.ownsRow_nil _ _ _ _, hB.out⟩
      · have hb : ((done.length : Int) == 600) = false := by rw [beq_eq_false_iff_ne]; omega
        have HR := fun W (h : BytesAt W A bs) => isaread bs A c p W h (by omega) (by omega) (by omega)
        have HR := Lib.hid HR
        by_cases he : (Ia.readB (bs.drop p)).2.2 = 0
        · obtain ⟨hI2, hpos⟩ := hI.out.step hlt h600 he
          have hpl := hI2.1
          rw [readAt_good hlt he] at HR
          clear he h600
          have HI2 := Lib.hid hI2
          clear hI2
          generalize (Ia.readB (bs.drop p)).1 = ins at *
          generalize (Ia.readB (bs.drop p)).2.1 = nn at *
          unfold insAgg at HR
          dsimp only at HR
          go_wp2_with fail
          refine (HR.out _ (HA.out.below hB.out (Nat.le_refl _))).mono ?_
          rintro e w1 ⟨rfl, hb1⟩
          have HB1 := Lib.hid (hB.out.trans (hb1.mono hB.out.size))
          have HO1 := Lib.hid (own_below hO.out hb1)
          have hz1 := HB1.out.size
          clear hb1
          go_wp2_with (at_builtin; refine wpList_append_own _ rfl (.tmp 29) (.tmp 31) 26 rfl w.heap.size 67 i0 (.agg #[.int .i64 0, .int .i32 0]) 2 16 Try.underlying26 hi hi0 hi1 hi2 rfl (by decide) (.slice A2 done.length c2) done.length (insCells done) rfl ((HO1.out.alloc _).alloc _) ⟨w1.heap.size + 1, 0, none⟩ 1 1 [.int .i64 ins.op, .int .i32 ins.n] rfl rfl ?c1 ?c2 ?c3 ?c4 ?c5 ?_)
          case c1 => exact cells_new _ _ _ _ (by simp)
          case c2 => intro u hu; simp only [List.mem_cons, List.not_mem_nil, or_false] at hu; rcases hu with rfl | rfl <;> rfl
          case c3 => unfold maxLen; omega
          case c4 => omega
          case c5 => simp; omega
          intro v2 w2 hown2 hg2 _
          have HB2 : Hid (Below w.heap.size w w2) := ((HB1.out.alloc hz1 _).alloc (by simp; omega) _).grown hg2 (by simp; omega) (fun b hb => (HO1.out.lt b hb).1)
          have hown3 : w2.ownsRow w.heap.size 67 2 v2 (done ++ [ins]).length (insCells (done ++ [ins])) := by
            rw [insCells_append, List.length_append]; exact hown2
          have HO3 := Lib.hid hown3
          clear hown2 hg2 hown3
          go_wp2_with fail
          go_roundw
          case rel => exact ⟨p + nn, done ++ [ins], by first | rfl | go_num, HI2, hpl, HI2.out.2.1, HO3, HB2⟩
          case measure => simp [intOf]; omega
        · have hf := hI.out.bad hlt h600 he
          rw [readAt_bad hlt he] at HR
          have hne : ((Ia.readB (bs.drop p)).2.2 != 0) = true := by rw [bne_iff_ne]; exact he
          clear he h600
          generalize (Ia.readB (bs.drop p)).2.2 = er at *
          have HF := Lib.hid hf
          clear hf
          unfold insAgg at HR
          dsimp only [Ia.nil] at HR
          go_wp2_with fail
          refine (HR.out _ (HA.out.below hB.out (Nat.le_refl _))).mono ?_
          rintro e w1 ⟨rfl, hb1⟩
          have HB1 := Lib.hid (hB.out.trans (hb1.mono hB.out.size))
          clear hb1
          go_wp2_with fail
          go_ret3
          rw [HF.out]
          exact ⟨_, rfl, World.ownsRow_nil _ _ _ _, HB1.out.alloc HB1.out.size _⟩
    · obtain rfl : p = bs.length := by omega
      have hf := hI.out.done
      have HF := Lib.hid hf
      clear hf
      go_wp2_with fail
      go_ret3
      rw [HF.out]
      exact ⟨_, rfl, hO.out, hB.out⟩
set_option maxHeartbeats 4000000 in
theorem refdecode (bs : List UInt8) (A : Option Addr) (c : Nat) (w : World) (hA : BytesAt w A bs) (hn : bs.length ≤ 140737488351232) :
    Calls Try.prog 72 #[.slice A bs.length c] w fun e w' => ∃ v, e = .returned (.tuple #[v, .int .i64 (Ia.decode bs).2.1, .int .i64 (Ia.decode bs).2.2]) ∧ w'.ownsRow w.heap.size 67 2 v (Ia.decode bs).1.length (insCells (Ia.decode bs).1) ∧ Below w.heap.size w w' := by
  have HA := Lib.hid hA
  clear hA
  obtain ⟨i0, hi, hi0, hi1, hi2⟩ := info_parts infoIns
  go_enter Try.func72, Try.ntmps72
  go_wp2_with fail
  go_loopw [5, 6] (fun v i wr => ∃ (p : Nat) (done : List Ia.Ins), i = .int .i64 p ∧ Hid (DecInv bs done p) ∧ p ≤ bs.length ∧ done.length ≤ 600 ∧ Hid (wr.ownsRow w.heap.size 67 2 v done.length (insCells done)) ∧ Hid (Below w.heap.size w wr)) (fun _ i _ => bs.length - (intOf i).toNat)
  case atStart => exact ⟨0, [], rfl, DecInv.start bs, Nat.zero_le _, by simp, World.ownsRow_nil _ _ _ _, Below.refl _ _⟩
  case round =>
    obtain ⟨p, done, rfl, hI, hp, hd, hO, hB⟩ := hrel
    rcases own_slice hO.out with ⟨A2, c2, rfl⟩
    by_cases hlt : p < bs.length
    · by_cases h600 : done.length = 600
      · have hf := hI.out.big hlt h600
        have HF := Lib.hid hf
        have hb : ((done.length : Int) == 600) = true := by rw [beq_iff_eq]; omega
        clear hf h600
        go_wp2_with fail
        go_ret3
        rw [HF.out]
        exact ⟨_, rfl, World.ownsRow_nil _ _ _ _, hB.out⟩
      · have hb : ((done.length : Int) == 600) = false := by rw [beq_eq_false_iff_ne]; omega
        have HR := fun W (h : BytesAt W A bs) => refread bs A c p W h (by omega) (by omega) (by omega)
        have HR := Lib.hid HR
        by_cases he : (Ia.readB (bs.drop p)).2.2 = 0
        · obtain ⟨hI2, hpos⟩ := hI.out.step hlt h600 he
          have hpl := hI2.1
          rw [readAt_good hlt he] at HR
          clear he h600
          have HI2 := Lib.hid hI2
          clear hI2
          generalize (Ia.readB (bs.drop p)).1 = ins at *
          generalize (Ia.readB (bs.drop p)).2.1 = nn at *
          unfold insAgg at HR
          dsimp only at HR
          go_wp2_with fail
          refine (HR.out _ (HA.out.below hB.out (Nat.le_refl _))).mono ?_
          rintro e w1 ⟨rfl, hb1⟩
          have HB1 := Lib.hid (hB.out.trans (hb1.mono hB.out.size))
          have HO1 := Lib.hid (own_below hO.out hb1)
          have hz1 := HB1.out.size
          clear hb1
          go_wp2_with (at_builtin; refine wpList_append_own _ rfl (.tmp 29) (.tmp 31) 26 rfl w.heap.size 67 i0 (.agg #[.int .i64 0, .int .i32 0]) 2 16 Try.underlying26 hi hi0 hi1 hi2 rfl (by decide) (.slice A2 done.length c2) done.length (insCells done) rfl ((HO1.out.alloc _).alloc _) ⟨w1.heap.size + 1, 0, none⟩ 1 1 [.int .i64 ins.op, .int .i32 ins.n] rfl rfl ?c1 ?c2 ?c3 ?c4 ?c5 ?_)
          case c1 => exact cells_new _ _ _ _ (by simp)
          case c2 => intro u hu; simp only [List.mem_cons, List.not_mem_nil, or_false] at hu; rcases hu with rfl | rfl <;> rfl
          case c3 => unfold maxLen; omega
          case c4 => omega
          case c5 => simp; omega
          intro v2 w2 hown2 hg2 _
          have HB2 : Hid (Below w.heap.size w w2) := ((HB1.out.alloc hz1 _).alloc (by simp; omega) _).grown hg2 (by simp; omega) (fun b hb => (HO1.out.lt b hb).1)
          have hown3 : w2.ownsRow w.heap.size 67 2 v2 (done ++ [ins]).length (insCells (done ++ [ins])) := by
            rw [insCells_append, List.length_append]; exact hown2
          have HO3 := Lib.hid hown3
          clear hown2 hg2 hown3
          go_wp2_with fail
          go_roundw
          case rel => exact ⟨p + nn, done ++ [ins], by first | rfl | go_num, HI2, hpl, HI2.out.2.1, HO3, HB2⟩
          case measure => simp [intOf]; omega
        · have hf := hI.out.bad hlt h600 he
          rw [readAt_bad hlt he] at HR
          have hne : ((Ia.readB (bs.drop p)).2.2 != 0) = true := by rw [bne_iff_ne]; exact he
          clear he h600
          generalize (Ia.readB (bs.drop p)).2.2 = er at *
          have HF := Lib.hid hf
          clear hf
          unfold insAgg at HR
          dsimp only [Ia.nil] at HR
          go_wp2_with fail
          refine (HR.out _ (HA.out.below hB.out (Nat.le_refl _))).mono ?_
          rintro e w1 ⟨rfl, hb1⟩
          have HB1 := Lib.hid (hB.out.trans (hb1.mono hB.out.size))
          clear hb1
          go_wp2_with fail
          go_ret3
          rw [HF.out]
          exact ⟨_, rfl, World.ownsRow_nil _ _ _ _, HB1.out.alloc HB1.out.size _⟩
    · obtain rfl : p = bs.length := by omega
      have hf := hI.out.done
      have HF := Lib.hid hf
      clear hf
      go_wp2_with fail
      go_ret3
      rw [HF.out]
      exact ⟨_, rfl, hO.out, hB.out⟩
end Go.Proofs.Ytjhopgmionpkoaa
namespace Go.Proofs.Ytjhopgmionpkoaa
set_option maxRecDepth 20000
open Go.RowKit Mem

theorem at_new (W : World) (bs : List UInt8) (t : TypeId) (cs : Array Value) (g : Nat) (hg : g = W.heap.size) (h : cs = (bcells bs).toArray) : BytesAt (W.alloc (.cells cs t)) (some ⟨g, 0, none⟩) bs := by
  subst h hg
  intro k hk
  refine ⟨W.heap.size, 0, rfl, ?_⟩
  rw [Nat.zero_add, (below_new (Below.refl _ _) k).1]
  simpa using bcells_at bs k hk
theorem k_bytes : Ia.bytesOf ⟨1, -2⟩ = [1, 254, 255, 255, 255] := by decide +kernel
theorem k_read : readAt [9, 1] 0 = (⟨9, 1⟩, 2, 0) := by kernel_rfl
theorem k_dec : Ia.decode [2, 5, 12] = ([], 9, 2) := by kernel_rfl
end Go.Proofs.Ytjhopgmionpkoaa
namespace Go.Proofs.Ytjhopgmionpkoaa
set_option maxRecDepth 20000
open Go.RowKit Mem

theorem le_div : ∀ (wd n : Nat), n < 256 ^ wd → n / 256 ^ wd = 0 := fun _ _ h => Nat.div_eq_of_lt h
set_option maxHeartbeats 4000000 in
theorem refdigits (n wd : Nat) (w : World) (hn : (n : Int) ≤ 4294967295) (h8 : wd ≤ 8) :
    Calls Try.prog 98 #[.int .u64 n, .int .i64 wd] w fun e w' => ∃ v, e = .returned (.tuple #[v, .int .u64 ((n / 256 ^ wd : Nat) : Int)]) ∧ w'.ownsRow w.heap.size 5 1 v wd (bcells (Ia.le wd n)) ∧ Below w.heap.size w w' := by
  obtain ⟨i0, hi, hi0, hi1, hi2⟩ := info_parts infoByte
  go_enter Try.func98, Try.ntmps98
  go_wp2_with fail
  go_loopw [0, 6, 7] (fun m v i wr => ∃ k : Nat, k ≤ wd ∧ i = .int .i64 k ∧ m = .int .u64 ((n / 256 ^ k : Nat) : Int) ∧ Hid (wr.ownsRow w.heap.size 5 1 v k (bcells ((Ia.le wd n).take k))) ∧ Hid (Below w.heap.size w wr)) (fun _ _ i _ => wd - (intOf i).toNat)
  case atStart => exact ⟨0, Nat.zero_le _, rfl, by simp, World.ownsRow_nil _ _ _ _, Below.refl _ _⟩
  case round =>
    obtain ⟨k, hk, rfl, rfl, hO, hB⟩ := hrel
    by_cases hlt : k < wd
    · have HL := Lib.hid (le_take_succ wd n k hlt)
      have hbz := hB.out.size
      have hdiv : n / 256 ^ k ≤ n := Nat.div_le_self _ _
      have HS := Lib.hid (show n / 256 ^ (k + 1) = n / 256 ^ k / 256 by rw [Nat.pow_succ, Nat.div_div_eq_div_mul])
      generalize n / 256 ^ k = q at *
      have hq0 : (0 : Int) ≤ q := by omega
      have hq1 : (q : Int) ≤ 4294967295 := by omega
      obtain ⟨u, hu⟩ : ∃ u : UInt8, u = UInt8.ofNat (q % 256) := ⟨_, rfl⟩
      have HU := Lib.hid (show ((q : Int) % 256) = (u.toNat : Int) by rw [hu, UInt8.toNat_ofNat']; omega)
      rw [← hu] at HL
      clear hdiv hu
      go_wp2_with ((at_builtin; refine wpList_append_own _ rfl _ _ 31 rfl w.heap.size 5 i0 (.int .u8 0) 1 1 Try.underlying31 hi hi0 hi1 hi2 rfl (by decide) _ _ _ rfl (hO.out.alloc _) ⟨wr.heap.size, 0, none⟩ 1 1 [.int .u8 ((q : Int) % 256)] rfl rfl ?c1 ?c2 ?c3 ?c4 ?c5 ?_))
      case c1 => exact cells_new _ _ _ _ rfl
      case c2 => intro u hu; rw [List.mem_singleton] at hu; subst hu; rfl
      case c3 => unfold maxLen; omega
      case c4 => omega
      case c5 => simp; omega
      intro v' w3 hown3 hgrow _
      have HB3 : Hid (Below w.heap.size w w3) := (hB.out.alloc hB.out.size _).grown hgrow (by simp; omega) (fun b hb => (hO.out.lt b hb).1)
      have hcell : bcells ((Ia.le wd n).take (k + 1)) = bcells ((Ia.le wd n).take k) ++ [.int .u8 ((q : Int) % 256)] := by
        rw [HL.out, bcells_append _ [_], HU.out]
        rfl
      rw [← hcell] at hown3
      have HO3 := Lib.hid hown3
      clear hown3 hgrow hcell
      go_wp2_with fail
      go_roundw
      case rel => exact ⟨k + 1, by omega, by go_num, by rw [HS.out]; first | rfl | go_num, HO3, HB3⟩
      case measure => simp [intOf]; omega
    · obtain rfl : k = wd := by omega
      have hO2 := hO.out
      rw [List.take_of_length_le (by rw [Ia.le_length]; exact Nat.le_refl _)] at hO2
      have HO2 := Lib.hid hO2
      clear hO2 hO
      go_wp2_with fail
      go_ret2
      exact ⟨_, rfl, HO2.out, hB.out⟩
set_option maxHeartbeats 4000000 in
theorem refjoin (a b : List UInt8) (A A' : Option Addr) (c c' : Nat) (w : World) (hA : BSrc w A c a) (hA' : BSrc w A' c' b) (hn : a.length + b.length ≤ 140737488351232) :
    Calls Try.prog 88 #[.slice A a.length c, .slice A' b.length c'] w fun e w' => ∃ v, e = .returned v ∧ w'.ownsRow w.heap.size 5 1 v (a.length + b.length) (bcells (a ++ b)) ∧ Below w.heap.size w w' := by
  have HA := Lib.hid hA
  have HA' := Lib.hid hA'
  clear hA hA'
  obtain ⟨i0, hi, hi0, hi1, hi2⟩ := info_parts infoByte
  go_enter Try.func88, Try.ntmps88
  go_wp2_with (at_builtin; refine wpList_app_any rfl (.tmp 6) (.tmp 7) 31 rfl w.heap.size 5 i0 (.int .u8 0) 1 1 Try.underlying31 hi hi0 hi1 hi2 rfl (by decide) (.slice none 0 0) 0 [] rfl (World.ownsRow_nil _ _ _ _) A a.length c (bcells a) rfl HA.out (bcells_one a) ?c3 ?c4 (Nat.le_refl _) ?_)
  case c3 => unfold maxLen; omega
  case c4 => omega
  intro v1 w1 hown1 hg1
  have HB1 : Hid (Below w.heap.size w w1) := (Below.refl _ _).grown hg1 (Nat.le_refl _) (by simp [Value.ownBlock])
  try simp only [Nat.zero_add, List.nil_append] at hown1
  have HO1 := Lib.hid hown1
  clear hown1 hg1
  go_wp2_with (at_builtin; refine wpList_app_any rfl (.tmp 9) (.tmp 10) 31 rfl w.heap.size 5 i0 (.int .u8 0) 1 1 Try.underlying31 hi hi0 hi1 hi2 rfl (by decide) v1 a.length (bcells a) rfl HO1.out A' b.length c' (bcells b) rfl (HA'.out.below HB1.out (Nat.le_refl _)) (bcells_one b) ?c3 ?c4 HB1.out.size ?_)
  case c3 => unfold maxLen; omega
  case c4 => omega
  intro v2 w2 hown2 hg2
  have HB2 : Hid (Below w.heap.size w w2) := HB1.out.grown hg2 HB1.out.size (fun b hb => (HO1.out.lt b hb).1)
  rw [← bcells_append] at hown2
  have HO2 := Lib.hid hown2
  clear hown2 hg2
  go_wp2_with fail
  go_ret
  exact ⟨_, rfl, HO2.out, HB2.out⟩
set_option maxHeartbeats 4000000 in
theorem refput (bs : List UInt8) (A : Option Addr) (c wd n : Nat) (w : World) (hA : BSrc w A c bs) (hl : bs.length ≤ 1099511627776) (hn : (n : Int) ≤ 4294967295) (h1 : 1 ≤ wd) (h8 : wd < 8) (hf : n < 256 ^ wd) :
    Calls Try.prog 82 #[.slice A bs.length c, .int .i64 wd, .int .u64 n] w fun e w' => ∃ v, e = .returned (.tuple #[v, .int .i64 0]) ∧ w'.ownsRow w.heap.size 5 1 v (bs.length + wd) (bcells (bs ++ Ia.le wd n)) ∧ Below w.heap.size w w' := by
  have HA := Lib.hid hA
  have HZ := Lib.hid (le_div wd n hf)
  clear hA hf
  have hl2 := Ia.le_length wd n
  have HL2 := Lib.hid hl2
  clear hl2
  go_enter Try.func82, Try.ntmps82
  go_wp2_with fail
  refine (refdigits n wd _ hn (by omega)).mono ?_
  rintro e w1 ⟨v1, rfl, hown1, hb1⟩
  rw [HZ.out]
  obtain ⟨A1, c1, rfl⟩ := own_slice hown1
  have HO1 : Hid (BSrc w1 A1 c1 (Ia.le wd n)) := by
    have := Src.of_own hown1
    unfold BSrc
    rw [HL2.out]; exact this
  have HB1 := Lib.hid hb1
  clear hown1 hb1
  go_wp2_with fail
  have hj := fun W h h' => refjoin bs (Ia.le wd n) A A1 c c1 W h h' (by rw [HL2.out]; omega)
  rw [HL2.out] at hj
  refine (hj _ (HA.out.below HB1.out (Nat.le_refl _)) HO1.out).mono ?_
  rintro e w2 ⟨v2, rfl, hown2, hb2⟩
  have HO2 := Lib.hid (own_base hown2 HB1.out.size)
  have HB2 := Lib.hid (HB1.out.trans (hb2.mono HB1.out.size))
  clear hown2 hb2 hj
  go_wp2_with fail
  go_ret2
  exact ⟨_, rfl, HO2.out, HB2.out⟩
set_option maxHeartbeats 4000000 in
theorem refplain_neg (x : Int) (h0 : x < 0) (h1 : -2147483648 ≤ x) (w : World) :
    Calls Try.prog 53 #[.int .i32 x] w fun e w' => e = .returned (.int .u32 (x + 4294967296)) ∧ w = w' := by
  go_enter Try.func53, Try.ntmps53
  go_wp2_with fail
  go_ret
  first | exact ⟨rfl, rfl⟩ | exact ⟨ret_int (by omega), rfl⟩
set_option maxHeartbeats 4000000 in
theorem refplain_pos (x : Int) (h0 : 0 ≤ x) (h1 : x ≤ 2147483647) (w : World) :
    Calls Try.prog 53 #[.int .i32 x] w fun e w' => e = .returned (.int .u32 x) ∧ w = w' := by
  go_enter Try.func53, Try.ntmps53
  go_wp2_with fail
  go_ret
  first | exact ⟨rfl, rfl⟩ | exact ⟨ret_int (by omega), rfl⟩
theorem refplain (n : Int) (h1 : -2147483648 ≤ n) (h2 : n ≤ 2147483647) (w : World) :
    Calls Try.prog 53 #[.int .i32 n] w fun e w' => e = .returned (.int .u32 (Ia.plainN n)) ∧ w = w' := by
  by_cases h : n < 0
  · have e : (Ia.plainN n : Int) = n + 4294967296 := by unfold Ia.plainN; omega
    rw [e]; exact refplain_neg n h h1 w
  · have e : (Ia.plainN n : Int) = n := by unfold Ia.plainN; omega
    rw [e]; exact refplain_pos n (by omega) h2 w
theorem src_one (W : World) (c : UInt8) (t : TypeId) : BSrc ((W.alloc (.cells #[.int .u8 (c.toNat : Int)] t)).drew) (some ⟨W.heap.size, 0, none⟩) 1 [c] := by
  refine ⟨rfl, fun h => (by cases h), ?_⟩
  intro ad hx j u hu
  injection hx with hx
  subst hx
  exact cells_new W _ t _ rfl j u hu
end Go.Proofs.Ytjhopgmionpkoaa
namespace Go.Proofs.Ytjhopgmionpkoaa
set_option maxRecDepth 20000
open Go.RowKit Mem

set_option maxHeartbeats 4000000 in
theorem refbytes_bad (i : Ia.Ins) (w : World) (h : Ia.right i ≠ 0) :
    Calls Try.prog 83 #[insAgg i] w fun e w' => e = .returned (.tuple #[.slice none 0 0, .int .i64 (Ia.right i)]) ∧ Below w.heap.size w w' := by
  have hb : ((Ia.right i) != 0) = true := by rw [bne_iff_ne]; exact h
  have HR := Lib.hid (refright i)
  clear h
  unfold insAgg at *
  generalize Ia.right i = rt at *
  go_enter Try.func83, Try.ntmps83
  go_wp2_with fail
  refine (HR.out _).mono ?_
  rintro e w1 ⟨rfl, hb1⟩
  obtain ⟨_, hbu⟩ := below_up hb1
  clear hb1
  go_wp2_with fail
  go_ret2
  exact ⟨rfl, hbu⟩
set_option maxHeartbeats 4000000 in
theorem refbytes_ok (i : Ia.Ins) (w : World) (h : Ia.right i = 0) (h1 : -2147483648 ≤ i.n) (h2 : i.n ≤ 2147483647) :
    Calls Try.prog 83 #[insAgg i] w fun e w' => ∃ v, e = .returned (.tuple #[v, .int .i64 0]) ∧ w'.ownsRow w.heap.size 5 1 v (1 + Ia.form i.op) (bcells (Ia.bytesOf i)) ∧ Below w.heap.size w w' := by
  have HR := Lib.hid (refright i)
  rw [h] at HR
  have HP := Lib.hid (right_plain h)
  have HW := Lib.hid (w64_nat (Nat.lt_trans (plain_lt i.n) (by decide)))
  have HO := Lib.hid (w8_op h)
  have hpl : (Ia.plainN i.n : Int) ≤ 4294967295 := by have := plain_lt i.n; omega
  have hf1 := Ia.right_form h
  have hf4 := Ia.form_le i.op
  have hfa : 1 ≤ Ia.form i.op := by omega
  have hfb : Ia.form i.op < 8 := by omega
  clear h hf1 hf4
  unfold insAgg at *
  go_enter Try.func83, Try.ntmps83
  go_wp2_with fail
  refine (HR.out _).mono ?_
  rintro e w1 ⟨rfl, hb1⟩
  obtain ⟨hs1, hbu⟩ := below_up hb1
  have k0 := (below_new hb1 0).1
  have k1 := (below_new hb1 1).1
  have HB := Lib.hid hbu
  clear hb1 hbu
  simp at k0 k1
  go_wp2_with fail
  go_region_held3 (fun w' => w'.cell? ⟨w.heap.size, 0, none⟩ = some (.int .i64 i.op) ∧ w'.cell? ⟨w.heap.size, 1, none⟩ = some (.int .i32 i.n)) (go_keep)
    (first
      | (go_at_call 85; refine (refwidth _ _).mono ?_; rintro e w' ⟨rfl, rfl⟩)
      | (go_at_call 53; refine (refplain _ h1 h2 _).mono ?_; rintro e w' ⟨rfl, rfl⟩)
      | (go_at_call 82; rw [HW.out, HO.out]; refine (refput [UInt8.ofNat i.op.toNat] _ 1 (Ia.form i.op) (Ia.plainN i.n) _ (src_one _ _ _) (by simp) hpl hfa hfb HP.out).mono ?_; rintro e w2 ⟨v, rfl, hown, hb2⟩; have HO2 := Lib.hid hown; have k2 := (hb2.cell (p := ⟨w.heap.size, 0, none⟩) (by simp; omega)); have k3 := (hb2.cell (p := ⟨w.heap.size, 1, none⟩) (by simp; omega)); have HB2 := Lib.hid hb2; clear hown hb2; simp [go_sem] at k2 k3))
  all_goals
    go_wp2_with fail
    go_ret2
    refine ⟨_, rfl, own_base HO2.out (by simp; omega), ?_⟩
    exact (below_drewN (HB.out.alloc HB.out.size _) 1).trans (HB2.out.mono (by simp; omega))
theorem size_bad {i : Ia.Ins} (h : Ia.right i ≠ 0) : Ia.size i = 0 := by unfold Ia.size; rw [if_neg h]
theorem size_ok {i : Ia.Ins} (h : Ia.right i = 0) : Ia.size i = 1 + Ia.form i.op := by unfold Ia.size; rw [if_pos h]
/-- a code in bytes, or its first fault -/
def encOf (l : List Ia.Ins) : List UInt8 × Int := if 600 < l.length then ([], 3) else if Ia.wrong l ≠ 0 then ([], Ia.wrong l) else (Ia.encode l, 0)
theorem encode_append : ∀ a b : List Ia.Ins, Ia.encode (a ++ b) = Ia.encode a ++ Ia.encode b
  | [], _ => rfl
  | i :: r, b => by simp only [List.cons_append, Ia.encode, encode_append r b, List.append_assoc]
theorem wrong_append : ∀ a b : List Ia.Ins, Ia.wrong a = 0 → Ia.wrong (a ++ b) = Ia.wrong b
  | [], _, _ => rfl
  | i :: r, b, h => by
    simp only [List.cons_append, Ia.wrong] at h ⊢
    by_cases h1 : Ia.right i ≠ 0
    · rw [if_pos h1] at h; exact absurd h h1
    · rw [if_neg h1] at h ⊢; exact wrong_append r b h
theorem encode_len : ∀ l : List Ia.Ins, (Ia.encode l).length ≤ 5 * l.length
  | [] => by simp [Ia.encode]
  | i :: r => by
    have := encode_len r
    have := Ia.form_le i.op
    simp only [Ia.encode, Ia.bytesOf, List.length_append, List.length_cons, Ia.le_length]
    omega
theorem take_snoc_ins (l : List Ia.Ins) (k : Nat) (h : k < l.length) : l.take (k + 1) = l.take k ++ [l[k]'h] := by
  rw [List.take_succ_eq_append_getElem h]
theorem wrong_at (l : List Ia.Ins) (k : Nat) (h : k < l.length) (h0 : Ia.wrong (l.take k) = 0) (hr : Ia.right (l[k]'h) ≠ 0) : Ia.wrong l = Ia.right (l[k]'h) := by
  have e : l = l.take k ++ (l[k]'h :: l.drop (k + 1)) := by rw [← List.drop_eq_getElem_cons h, List.take_append_drop]
  refine (congrArg Ia.wrong e).trans ?_
  rw [wrong_append _ _ h0]
  simp only [Ia.wrong]
  rw [if_pos hr]
theorem wrong_step (l : List Ia.Ins) (k : Nat) (h : k < l.length) (h0 : Ia.wrong (l.take k) = 0) (hr : Ia.right (l[k]'h) = 0) : Ia.wrong (l.take (k + 1)) = 0 := by
  rw [take_snoc_ins l k h, wrong_append _ _ h0]
  simp only [Ia.wrong]
  rw [if_neg (by omega)]
theorem encode_step (l : List Ia.Ins) (k : Nat) (h : k < l.length) : Ia.encode (l.take (k + 1)) = Ia.encode (l.take k) ++ Ia.bytesOf (l[k]'h) := by
  rw [take_snoc_ins l k h, encode_append]
  simp [Ia.encode]
theorem encOf_big {l : List Ia.Ins} (h : 600 < l.length) : encOf l = ([], 3) := by unfold encOf; rw [if_pos h]
theorem encOf_bad {l : List Ia.Ins} (h : ¬ 600 < l.length) (k : Nat) (hk : k < l.length) (h0 : Ia.wrong (l.take k) = 0) (hr : Ia.right (l[k]'hk) ≠ 0) : encOf l = ([], Ia.right (l[k]'hk)) := by
  have hw := wrong_at l k hk h0 hr
  unfold encOf; rw [if_neg h, hw, if_pos hr]
theorem encOf_ok {l : List Ia.Ins} (h : ¬ 600 < l.length) (h0 : Ia.wrong l = 0) : encOf l = (Ia.encode l, 0) := by
  unfold encOf; rw [if_neg h, h0, if_neg (by simp)]
set_option maxHeartbeats 4000000 in
theorem isaencode (l : List Ia.Ins) (A : Option Addr) (c : Nat) (w : World) (hA : InsAt w A l) (hn : l.length ≤ 4611686018427387904) (hr : ∀ k (h : k < l.length), -2147483648 ≤ (l[k]'h).n ∧ (l[k]'h).n ≤ 2147483647) :
    Calls Try.prog 51 #[.slice A l.length c] w fun e w' => ∃ v, e = .returned (.tuple #[v, .int .i64 (encOf l).2]) ∧ w'.ownsRow w.heap.size 5 1 v (encOf l).1.length (bcells (encOf l).1) ∧ Below w.heap.size w w' := by
  have HA := Lib.hid hA
  have HR := Lib.hid hr
  clear hA hr
  obtain ⟨i0, hi, hi0, hi1, hi2⟩ := info_parts infoByte
  by_cases hbig : 600 < l.length
  · have HE := Lib.hid (encOf_big hbig)
    go_enter Try.func51, Try.ntmps51
    go_wp2_with fail
    go_ret2
    rw [HE.out]
    exact ⟨_, rfl, World.ownsRow_nil _ _ _ _, Below.refl _ _⟩
  · go_enter Try.func51, Try.ntmps51
    go_wp2_with fail
    go_loopw [4, 14] (fun v i wr => ∃ k : Nat, k ≤ l.length ∧ i = .int .i64 k ∧ Hid (Ia.wrong (l.take k) = 0) ∧ Hid (wr.ownsRow w.heap.size 5 1 v (Ia.encode (l.take k)).length (bcells (Ia.encode (l.take k)))) ∧ Hid (Below w.heap.size w wr)) (fun _ i _ => l.length - (intOf i).toNat)
    case atStart => exact ⟨0, Nat.zero_le _, rfl, rfl, World.ownsRow_nil _ _ _ _, Below.refl _ _⟩
    case round =>
      obtain ⟨k, hk, rfl, h0, hO, hB⟩ := hrel
      by_cases hlt : k < l.length
      · obtain ⟨b, off, rfl, c0, c1⟩ := HA.out.below hB.out (Nat.le_refl _) k hlt
        have hq := HR.out k hlt
        have HQ1 := Lib.hid hq.1
        have HQ2 := Lib.hid hq.2
        clear hq
        have hz := hB.out.size
        by_cases hrt : Ia.right (l[k]'hlt) = 0
        · have HW := Lib.hid (wrong_step l k hlt h0.out hrt)
          have HS := Lib.hid (encode_step l k hlt)
          have HBy := Lib.hid (fun W => isabytes_ok (l[k]'hlt) W hrt HQ1.out HQ2.out)
          have hel := encode_len (l.take k)
          have htl : (l.take k).length ≤ k := List.length_take_le _ _
          have HN := Lib.hid (show (Ia.bytesOf (l[k]'hlt)).length = 1 + Ia.form (l[k]'hlt).op by simp only [Ia.bytesOf, List.length_cons, Ia.le_length]; omega)
          have hfo := Ia.form_le (l[k]'hlt).op
          clear hrt h0
          generalize l[k]'hlt = ins at *
          generalize Ia.encode (l.take k) = pre at *
          have hpre : pre.length ≤ 3000 := by omega
          have hfo2 : 1 + Ia.form ins.op ≤ 5 := by omega
          clear hfo hel htl
          unfold insAgg at HBy
          go_wp2_with fail
          refine (HBy.out _).mono ?_
          rintro e w1 ⟨v1, rfl, hown1, hb1⟩
          obtain ⟨A1, c1', rfl⟩ := own_slice hown1
          have HO1 : Hid (Src w1 A1 (1 + Ia.form ins.op) c1' (bcells (Ia.bytesOf ins)) 1) := Src.of_own hown1
          have hbr : Below wr.heap.size wr w1 := (below_up hb1).2
          have HB1 := Lib.hid (hB.out.trans (hbr.mono hz))
          have HO2 := Lib.hid (own_below hO.out hbr)
          obtain ⟨Av, cv, rfl⟩ := own_slice HO2.out
          clear hown1 hb1 hbr
          go_wp2_with (at_builtin; refine wpList_app_any rfl (.tmp 26) (.tmp 27) 31 rfl w.heap.size 5 i0 (.int .u8 0) 1 1 Try.underlying31 hi hi0 hi1 hi2 rfl (by decide) (.slice Av pre.length cv) pre.length (bcells pre) rfl HO2.out A1 (1 + Ia.form ins.op) c1' (bcells (Ia.bytesOf ins)) rfl HO1.out (bcells_one _) ?c3 ?c4 HB1.out.size ?_)
          case c3 => unfold maxLen; omega
          case c4 => omega
          intro v2 w2 hown2 hg2
          have HB2 : Hid (Below w.heap.size w w2) := HB1.out.grown hg2 HB1.out.size (fun b hb => (HO2.out.lt b hb).1)
          have hown3 : w2.ownsRow w.heap.size 5 1 v2 (Ia.encode (l.take (k + 1))).length (bcells (Ia.encode (l.take (k + 1)))) := by
            rw [HS.out, bcells_append, List.length_append, HN.out]; exact hown2
          have HO3 := Lib.hid hown3
          clear hown2 hg2 hown3
          go_wp2_with fail
          go_roundw
          case rel => exact ⟨k + 1, by omega, by go_num, HW, HO3, HB2⟩
          case measure => simp [intOf]; omega
        · have HE := Lib.hid (encOf_bad hbig k hlt h0.out hrt)
          have HBy := Lib.hid (fun W => isabytes_bad (l[k]'hlt) W hrt)
          have hne : (Ia.right (l[k]'hlt) != 0) = true := by rw [bne_iff_ne]; exact hrt
          clear hrt h0 HQ1 HQ2
          generalize l[k]'hlt = ins at *
          generalize Ia.right ins = rt at *
          unfold insAgg at HBy
          go_wp2_with fail
          refine (HBy.out _).mono ?_
          rintro e w1 ⟨rfl, hb1⟩
          have hbr : Below wr.heap.size wr w1 := (below_up hb1).2
          have HB1 := Lib.hid (hB.out.trans (hbr.mono hz))
          clear hb1 hbr
          go_wp2_with fail
          go_ret2
          rw [HE.out]
          exact ⟨_, rfl, World.ownsRow_nil _ _ _ _, HB1.out⟩
      · obtain rfl : k = l.length := by omega
        have h1 := h0.out
        have h2 := hO.out
        rw [List.take_length] at h1 h2
        have HE := Lib.hid (encOf_ok hbig h1)
        have HO2 := Lib.hid h2
        clear h1 h2
        go_wp2_with fail
        go_ret2
        rw [HE.out]
        exact ⟨_, rfl, HO2.out, hB.out⟩
set_option maxHeartbeats 4000000 in
theorem refencode (l : List Ia.Ins) (A : Option Addr) (c : Nat) (w : World) (hA : InsAt w A l) (hn : l.length ≤ 4611686018427387904) (hr : ∀ k (h : k < l.length), -2147483648 ≤ (l[k]'h).n ∧ (l[k]'h).n ≤ 2147483647) :
    Calls Try.prog 54 #[.slice A l.length c] w fun e w' => ∃ v, e = .returned (.tuple #[v, .int .i64 (encOf l).2]) ∧ w'.ownsRow w.heap.size 5 1 v (encOf l).1.length (bcells (encOf l).1) ∧ Below w.heap.size w w' := by
  have HA := Lib.hid hA
  have HR := Lib.hid hr
  clear hA hr
  obtain ⟨i0, hi, hi0, hi1, hi2⟩ := info_parts infoByte
  by_cases hbig : 600 < l.length
  · have HE := Lib.hid (encOf_big hbig)
    go_enter Try.func54, Try.ntmps54
    go_wp2_with fail
    go_ret2
    rw [HE.out]
    exact ⟨_, rfl, World.ownsRow_nil _ _ _ _, Below.refl _ _⟩
  · go_enter Try.func54, Try.ntmps54
    go_wp2_with fail
    go_loopw [4, 5] (fun v i wr => ∃ k : Nat, k ≤ l.length ∧ i = .int .i64 k ∧ Hid (Ia.wrong (l.take k) = 0) ∧ Hid (wr.ownsRow w.heap.size 5 1 v (Ia.encode (l.take k)).length (bcells (Ia.encode (l.take k)))) ∧ Hid (Below w.heap.size w wr)) (fun _ i _ => l.length - (intOf i).toNat)
    case atStart => exact ⟨0, Nat.zero_le _, rfl, rfl, World.ownsRow_nil _ _ _ _, Below.refl _ _⟩
    case round =>
      obtain ⟨k, hk, rfl, h0, hO, hB⟩ := hrel
      by_cases hlt : k < l.length
      · obtain ⟨b, off, rfl, c0, c1⟩ := HA.out.below hB.out (Nat.le_refl _) k hlt
        have hq := HR.out k hlt
        have HQ1 := Lib.hid hq.1
        have HQ2 := Lib.hid hq.2
        clear hq
        have hz := hB.out.size
        by_cases hrt : Ia.right (l[k]'hlt) = 0
        · have HW := Lib.hid (wrong_step l k hlt h0.out hrt)
          have HS := Lib.hid (encode_step l k hlt)
          have HBy := Lib.hid (fun W => refbytes_ok (l[k]'hlt) W hrt HQ1.out HQ2.out)
          have hel := encode_len (l.take k)
          have htl : (l.take k).length ≤ k := List.length_take_le _ _
          have HN := Lib.hid (show (Ia.bytesOf (l[k]'hlt)).length = 1 + Ia.form (l[k]'hlt).op by simp only [Ia.bytesOf, List.length_cons, Ia.le_length]; omega)
          have hfo := Ia.form_le (l[k]'hlt).op
          clear hrt h0
          generalize l[k]'hlt = ins at *
          generalize Ia.encode (l.take k) = pre at *
          have hpre : pre.length ≤ 3000 := by omega
          have hfo2 : 1 + Ia.form ins.op ≤ 5 := by omega
          clear hfo hel htl
          unfold insAgg at HBy
          go_wp2_with fail
          refine (HBy.out _).mono ?_
          rintro e w1 ⟨v1, rfl, hown1, hb1⟩
          obtain ⟨A1, c1', rfl⟩ := own_slice hown1
          have HO1 : Hid (Src w1 A1 (1 + Ia.form ins.op) c1' (bcells (Ia.bytesOf ins)) 1) := Src.of_own hown1
          have hbr : Below wr.heap.size wr w1 := hb1
          have HB1 := Lib.hid (hB.out.trans (hbr.mono hz))
          have HO2 := Lib.hid (own_below hO.out hbr)
          obtain ⟨Av, cv, rfl⟩ := own_slice HO2.out
          clear hown1 hb1 hbr
          go_wp2_with (at_builtin; refine wpList_app_any rfl (.tmp 28) (.tmp 29) 31 rfl w.heap.size 5 i0 (.int .u8 0) 1 1 Try.underlying31 hi hi0 hi1 hi2 rfl (by decide) (.slice Av pre.length cv) pre.length (bcells pre) rfl HO2.out A1 (1 + Ia.form ins.op) c1' (bcells (Ia.bytesOf ins)) rfl HO1.out (bcells_one _) ?c3 ?c4 HB1.out.size ?_)
          case c3 => unfold maxLen; omega
          case c4 => omega
          intro v2 w2 hown2 hg2
          have HB2 : Hid (Below w.heap.size w w2) := HB1.out.grown hg2 HB1.out.size (fun b hb => (HO2.out.lt b hb).1)
          have hown3 : w2.ownsRow w.heap.size 5 1 v2 (Ia.encode (l.take (k + 1))).length (bcells (Ia.encode (l.take (k + 1)))) := by
            rw [HS.out, bcells_append, List.length_append, HN.out]; exact hown2
          have HO3 := Lib.hid hown3
          clear hown2 hg2 hown3
          go_wp2_with fail
          go_roundw
          case rel => exact ⟨k + 1, by omega, by go_num, HW, HO3, HB2⟩
          case measure => simp [intOf]; omega
        · have HE := Lib.hid (encOf_bad hbig k hlt h0.out hrt)
          have HBy := Lib.hid (fun W => refbytes_bad (l[k]'hlt) W hrt)
          have hne : (Ia.right (l[k]'hlt) != 0) = true := by rw [bne_iff_ne]; exact hrt
          clear hrt h0 HQ1 HQ2
          generalize l[k]'hlt = ins at *
          generalize Ia.right ins = rt at *
          unfold insAgg at HBy
          go_wp2_with fail
          refine (HBy.out _).mono ?_
          rintro e w1 ⟨rfl, hb1⟩
          have hbr : Below wr.heap.size wr w1 := hb1
          have HB1 := Lib.hid (hB.out.trans (hbr.mono hz))
          clear hb1 hbr
          go_wp2_with fail
          go_ret2
          rw [HE.out]
          exact ⟨_, rfl, World.ownsRow_nil _ _ _ _, HB1.out⟩
      · obtain rfl : k = l.length := by omega
        have h1 := h0.out
        have h2 := hO.out
        rw [List.take_length] at h1 h2
        have HE := Lib.hid (encOf_ok hbig h1)
        have HO2 := Lib.hid h2
        clear h1 h2
        go_wp2_with fail
        go_ret2
        rw [HE.out]
        exact ⟨_, rfl, HO2.out, hB.out⟩
end Go.Proofs.Ytjhopgmionpkoaa
namespace Go.Proofs.Ytjhopgmionpkoaa
set_option maxRecDepth 20000
open Go.RowKit Go.ChangeShapes Go.WideShapes Go.Deep Mem

theorem wf64 {a : Int} (h : (Lit.int .i64 a).wf = true) : -9223372036854775808 ≤ a ∧ a ≤ 9223372036854775807 := (Lit.wf_int_iff _ _).1 h
theorem wf32 {a : Int} (h : (Lit.int .i32 a).wf = true) : -2147483648 ≤ a ∧ a ≤ 2147483647 := (Lit.wf_int_iff _ _).1 h
/-- what is known of an instruction's two numbers -/
def InsOk (i : Ia.Ins) : Prop := (-9223372036854775808 ≤ i.op ∧ i.op ≤ 9223372036854775807) ∧ -2147483648 ≤ i.n ∧ i.n ≤ 2147483647
theorem insCells_get : ∀ (l : List Ia.Ins) (j : Nat) (u : Value), (insCells l)[j]? = some u → ∃ k, ∃ h : k < l.length, (j = k * 2 ∧ u = .int .i64 (l[k]'h).op) ∨ (j = k * 2 + 1 ∧ u = .int .i32 (l[k]'h).n)
  | [], j, u, h => by simp [insCells] at h
  | i :: r, 0, u, h => ⟨0, by simp, .inl ⟨rfl, by simpa [insCells] using h.symm⟩⟩
  | i :: r, 1, u, h => ⟨0, by simp, .inr ⟨rfl, by simpa [insCells] using h.symm⟩⟩
  | i :: r, j + 2, u, h => by
    obtain ⟨k, hk, h1⟩ := insCells_get r j u (by simpa [insCells] using h)
    refine ⟨k + 1, by simpa using hk, ?_⟩
    rcases h1 with ⟨rfl, rfl⟩ | ⟨rfl, rfl⟩
    · left; exact ⟨by omega, by simp⟩
    · right; exact ⟨by omega, by simp⟩
theorem bytesOfIns : Try.prog.bytesOf 67 = 16 := by kernel_rfl
theorem open_inss {H : Type} {enc : TypeId × Value → H} {w : World} {b0 : Nat} {spare : Nat → Bool} {held : Bool} {r : Reach} {v : Value} {d : DataW H} {p : List MemPlace}
    (hv : Value.okWide Try.prog w r b0 26 v) (h : DataW.Trod enc Try.prog w 0 spare held 26 v d p) (_hsz : ∀ n ∈ d.weights Try.prog 26, n ≤ reachBytes) :
    ∃ (A : Option Addr) (c : Nat) (l : List Ia.Ins), v = .slice A l.length c ∧ ISrc w A c l ∧ (∀ k (h : k < l.length), InsOk (l[k]'h)) ∧ l.length ≤ 8796093022202 := by
  obtain ⟨A, n, c, rfl⟩ := okWide_slice Try.underlying26 hv
  obtain ⟨fuel, hf⟩ := h
  have hC : Try.prog.cellsOf 67 = 2 := by kernel_rfl
  rcases open_slice Try.underlying26 hf with ⟨hcs, _⟩ | ⟨a, len, cap, m, k, D, Pl, hcs, hb, hl, hm, hmm, hx, hi⟩
  · simp [Value.cells] at hcs
    obtain ⟨rfl, rfl, rfl⟩ := hcs
    exact ⟨none, 0, [], rfl, ⟨by simp [insCells], fun _ => ⟨rfl, rfl⟩, fun ad h => (by cases h)⟩, fun k hk => by simp at hk, by simp⟩
  · simp [Value.cells] at hcs
    obtain ⟨rfl, rfl, rfl⟩ := hcs
    have hlm : n ≤ m := by rw [hmm]; split <;> omega
    simp only [Prod.mk.injEq] at hx
    obtain ⟨rfl, _⟩ := hx
    have hw := _hsz ((((List.range n).map D).length + ((List.range (m - n)).map fun j => D (n + j)).length) * Try.prog.bytesOf 67) (by simp [DataW.weights, Try.underlying26])
    rw [bytesOfIns] at hw
    simp only [List.length_map, List.length_range, reachBytes] at hw
    have each : ∀ i, i < n → ∃ t : Ia.Ins, w.cell? ((a.add (i * 2)).add 0) = some (.int .i64 t.op) ∧ w.cell? ((a.add (i * 2)).add 1) = some (.int .i32 t.n) ∧ InsOk t := by
      intro i him
      obtain ⟨cs', hc, ht⟩ := hi i (by omega)
      rw [hC] at hc
      obtain ⟨_, hcl, hat⟩ := World.cells?_some hc
      match cs', hcl with
      | [c0, c1], _ =>
        obtain ⟨xs, n', _, _, _, _, hg⟩ := DataW.trod_struct Try.underlying67 ht
        have g0 : DataW.trod enc Try.prog w 0 spare held n' 3 (([c0, c1].drop 0).take (Try.prog.cellsOf 3)) = xs[0]? := hg 0 _ rfl
        have g1 : DataW.trod enc Try.prog w 0 spare held n' 21 (([c0, c1].drop 1).take (Try.prog.cellsOf 21)) = xs[1]? := hg 1 _ rfl
        have one : ∀ t, t = 3 ∨ t = 21 → Try.prog.cellsOf t = 1 := by
          rintro t (rfl | rfl) <;> kernel_rfl
        rw [one _ (.inl rfl)] at g0
        rw [one _ (.inr rfl)] at g1
        obtain ⟨y0, hy0⟩ : ∃ y, xs[0]? = some y := ⟨xs[0]'(by simp_all), by simp_all⟩
        obtain ⟨y1, hy1⟩ : ∃ y, xs[1]? = some y := ⟨xs[1]'(by simp_all), by simp_all⟩
        rw [hy0] at g0
        rw [hy1] at g1
        obtain ⟨n0, e0, _, w0⟩ := DataW.trod_int Try.underlying3 g0
        obtain ⟨n1, e1, _, w1⟩ := DataW.trod_int Try.underlying21 g1
        simp at e0 e1
        subst e0 e1
        exact ⟨⟨n0, n1⟩, hat 0 (by omega), hat 1 (by omega), wf64 w0, wf32 w1⟩
    haveI : Inhabited Ia.Ins := ⟨Ia.nil⟩
    obtain ⟨f, hf⟩ := choose_lt each
    refine ⟨some a, c, (List.range n).map f, by simp, ⟨?_, fun h => (by cases h), ?_⟩, fun k hk => ?_, by simp; omega⟩
    · rw [insCells_length]
    · intro ad hx j u hu
      injection hx with hx
      subst hx
      obtain ⟨k, hk, h1⟩ := insCells_get _ j u hu
      have hk' : k < n := by simpa using hk
      obtain ⟨a0, a1, _⟩ := hf k hk'
      rw [Go.Deep.add_add] at a0 a1
      rcases h1 with ⟨rfl, rfl⟩ | ⟨rfl, rfl⟩
      · simpa using a0
      · simpa using a1
    · have hk' : k < n := by simpa using hk
      simpa using (hf k hk').2.2
theorem open_ins {H : Type} {enc : TypeId × Value → H} {w : World} {b0 : Nat} {spare : Nat → Bool} {held : Bool} {r : Reach} {v : Value} {d : DataW H} {p : List MemPlace}
    (hv : Value.okWide Try.prog w r b0 67 v) (h : DataW.Trod enc Try.prog w 0 spare held 67 v d p) (_hsz : ∀ n ∈ d.weights Try.prog 67, n ≤ reachBytes) :
    ∃ (i : Ia.Ins), v = insAgg i ∧ InsOk i := by
  obtain ⟨v0, v1, y0, y1, n, rfl, _, _, g0, g1⟩ := Go.Joins.open_agg2 Try.underlying67 (by kernel_rfl) (by kernel_rfl) hv h
  obtain ⟨n0, e0, _, w0⟩ := DataW.trod_int Try.underlying3 g0
  obtain ⟨n1, e1, _, w1⟩ := DataW.trod_int Try.underlying21 g1
  simp at e0 e1
  subst e0 e1
  exact ⟨⟨n0, n1⟩, rfl, wf64 w0, wf32 w1⟩
end Go.Proofs.Ytjhopgmionpkoaa
