/-
  A number laid down behind bytes: the function Put of the package octet.
-/
import Derived.Test.YtefnmpococnepaaOctA
import Derived.Laws.CopyOwn
import Derived.Laws.MakeOwn
import Derived.OwnWalk
namespace Go.Proofs.Ytefnmpococnepaa
open Go.RowKit Mem

theorem le_take_succ : ∀ (wd n k : Nat), k < wd → (Ia.le wd n).take (k + 1) = (Ia.le wd n).take k ++ [UInt8.ofNat (n / 256 ^ k % 256)]
  | 0, _, _, h => absurd h (Nat.not_lt_zero _)
  | wd + 1, n, 0, _ => by simp [Ia.le]
  | wd + 1, n, k + 1, h => by
    have e : n / 256 / 256 ^ k = n / 256 ^ (k + 1) := by rw [Nat.div_div_eq_div_mul, Nat.pow_succ, Nat.mul_comm]
    simp only [Ia.le, List.take_succ_cons, List.cons_append, le_take_succ wd (n / 256) k (by omega), e]
theorem byte_out (n k : Nat) : ((n : Int) / 2 ^ (8 * k) % 256) = ((UInt8.ofNat (n / 256 ^ k % 256)).toNat : Int) := by
  have e : (256 : Nat) ^ k = 2 ^ (8 * k) := by rw [Nat.pow_mul]
  have h2 : ((n : Int) / 2 ^ (8 * k)) = ((n / 2 ^ (8 * k) : Nat) : Int) := by simp
  rw [h2, e]
  generalize n / 2 ^ (8 * k) = q
  rw [UInt8.toNat_ofNat']
  omega
theorem shift_out (n wd : Nat) (hf : n < 256 ^ wd) : ((n : Int) / 2 ^ (8 * wd) != 0) = false := by
  have e : (256 : Nat) ^ wd = 2 ^ (8 * wd) := by rw [Nat.pow_mul]
  rw [e] at hf
  have h2 : ((n : Int) / 2 ^ (8 * wd)) = ((n / 2 ^ (8 * wd) : Nat) : Int) := by simp
  rw [h2, Nat.div_eq_of_lt hf]
  rfl
set_option maxHeartbeats 4000000 in
theorem octput (bs : List UInt8) (A : Option Addr) (c wd n : Nat) (w : World) (hA : BytesAt w A bs) (hn : bs.length ≤ 1099511627776) (h1 : 1 ≤ wd) (h8 : wd < 8) (hf : n < 256 ^ wd) :
    Calls Try.prog 35 #[.slice A bs.length c, .int .i64 wd, .int .u64 n] w fun e w' => ∃ v, e = .returned (.tuple #[v, .int .i64 0]) ∧ w'.ownsRow w.heap.size 5 1 v (bs.length + wd) (bcells (bs ++ Ia.le wd n)) ∧ Below w.heap.size w w' := by
  have HA := Lib.hid hA
  have hz := shift_out n wd hf
  have HF := Lib.hid hf
  clear hA hf
  obtain ⟨Z, hZ, hmk⟩ := make_bytes bs.length wd (by omega)
  have hsz1 : (Try.prog.info? 5).map (·.size) = some 1 := by kernel_rfl
  have hb0 : ∀ o, Below w.heap.size w (w.alloc o) := fun o => (Below.refl _ _).alloc (Nat.le_refl _) o
  go_enter Try.func35, Try.ntmps35
  go_wp2_with (with_reducible refine wpList_copy_splice rfl (.tmp 33) (.tmp 34) 22 22 rfl 5 Try.underlying22 hsz1 _ _ _ _ _ _ rfl rfl w.heap.size 0 Z 5 ?g (bcells bs) ?n ?pos ?fit (bcells_one bs) w.heap.size w ?b (Nat.le_refl _) ?_)
  case g => exact heap_alloc_new _ _
  case b => exact hb0 _
  case n => rw [bcells_length]; exact (Nat.min_self _).symm
  case pos =>
    intro h0
    rw [bcells_length] at h0
    exact (HA.out.below (hb0 _) (Nat.le_refl _)).src h0
  case fit => rw [bcells_length]; omega
  intro w2 HG2 hB2
  have hown : w2.ownsRow w.heap.size 5 1 (.slice (some ⟨w.heap.size, 0, none⟩) bs.length (bs.length + wd)) (bs.length + 0) (bcells (bs ++ (Ia.le wd n).take 0)) := by
    refine ⟨by simp [bcells_length], .inr ⟨w.heap.size, bs.length + wd, _, rfl, Nat.le_refl _, HG2.out, by omega, by unfold maxLen; omega, ?_, ?_⟩⟩
    · simp [splice, bcells_length, hZ]
    · simp [splice, bcells_length]
  have HO := Lib.hid hown
  have HB := Lib.hid hB2
  clear hown hB2 HG2
  obtain ⟨i0, hi, hi0, hi1, hi2⟩ := info_parts infoByte
  go_wp2_with fail
  go_loopw [8, 37] (fun v i wr => ∃ k : Nat, k ≤ wd ∧ i = .int .i64 k ∧ Hid (wr.ownsRow w.heap.size 5 1 v (bs.length + k) (bcells (bs ++ (Ia.le wd n).take k))) ∧ Hid (Below w.heap.size w wr)) (fun _ i _ => wd - (intOf i).toNat)
  case atStart => exact ⟨0, Nat.zero_le _, rfl, HO, HB⟩
  case round =>
    obtain ⟨k, hk, rfl, hO, hB⟩ := hrel
    by_cases hlt : k < wd
    · have HL := Lib.hid (le_take_succ wd n k hlt)
      have hwz : wr.heap.size ≤ wr.heap.size := Nat.le_refl _
      have hbz := hB.out.size
      go_wp2_with ((at_builtin; refine wpList_append_own _ rfl _ _ 22 rfl w.heap.size 5 i0 (.int .u8 0) 1 1 Try.underlying22 hi hi0 hi1 hi2 rfl (by decide) _ _ _ rfl (hO.out.alloc _) ⟨wr.heap.size, 0, none⟩ 1 1 [.int .u8 ((n : Int) / 2 ^ (8 * k) % 256)] rfl rfl ?c1 ?c2 ?c3 ?c4 ?c5 ?_))
      case c1 => exact cells_new _ _ _ _ rfl
      case c2 => intro u hu; rw [List.mem_singleton] at hu; subst hu; rfl
      case c3 => unfold maxLen; omega
      case c4 => omega
      case c5 => simp; omega
      intro v' w3 hown3 hgrow _
      have HB3 : Hid (Below w.heap.size w w3) := (hB.out.alloc hB.out.size _).grown hgrow (by simp; omega) (fun b hb => (hO.out.lt b hb).1)
      have hcell : bcells (bs ++ (Ia.le wd n).take (k + 1)) = bcells (bs ++ (Ia.le wd n).take k) ++ [.int .u8 ((n : Int) / 2 ^ (8 * k) % 256)] := by
        rw [HL.out, ← List.append_assoc, bcells_append _ [_], byte_out n k]
        rfl
      rw [← hcell] at hown3
      have HO3 := Lib.hid hown3
      clear hown3 hgrow hcell
      go_wp2_with fail
      go_roundw
      case rel => exact ⟨k + 1, by omega, by go_num, HO3, HB3⟩
      case measure => simp [intOf]; omega
    · obtain rfl : k = wd := by omega
      have hO2 := hO.out
      rw [List.take_of_length_le (by rw [Ia.le_length]; exact Nat.le_refl _)] at hO2
      have HO2 := Lib.hid hO2
      clear hO2 hO
      go_wp2_with fail
      go_ret2
      exact ⟨_, rfl, HO2.out, hB.out⟩
end Go.Proofs.Ytefnmpococnepaa
