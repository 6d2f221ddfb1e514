/-
  A number as text: Digits of both.
-/
import Derived.Test.YtilkilffkjhhbaaTrMem
import Derived.Test.YtilkilffkjhhbaaBytes
import Derived.Test.YtilkilffkjhhbaaCells
namespace Go.Proofs.Ytilkilffkjhhbaa
set_option maxRecDepth 20000
set_option linter.unusedVariables false
open Go.RowKit Tr Mem

def dg (m : Nat) : UInt8 := UInt8.ofNat (48 + m % 10)
theorem dg_val (m : Nat) : ((dg m).toNat : Int) = 48 + (m : Int) % 10 := by
  unfold dg
  rw [UInt8.toNat_ofNat']
  omega
theorem digitsF_step (f n : Nat) (acc : Lx.Bs) : digitsF (f + 1) n acc = if n / 10 = 0 then dg n :: acc else digitsF f (n / 10) (dg n :: acc) := by rw [digitsF]; rfl
/-- the row of eleven bytes, the last ones of which are written -/
def digRow (acc : Lx.Bs) : Array Value := (bcells (List.replicate (11 - acc.length) 0 ++ acc)).toArray
theorem digRow_set {acc : Lx.Bs} {p : Nat} (h : acc.length + p + 1 = 11) (c : UInt8) (x : Int) (hx : (c.toNat : Int) = x) : (digRow acc).setIfInBounds p (.int .u8 x) = digRow (c :: acc) := by
  subst hx
  unfold digRow
  rw [List.setIfInBounds_toArray]
  congr 1
  unfold bcells
  have e : 11 - acc.length = p + 1 := by omega
  have e2 : 11 - (c :: acc).length = p := by simp; omega
  rw [e, e2]
  rw [show (Value.int .u8 (c.toNat : Int)) = (fun c : UInt8 => Value.int .u8 (c.toNat : Int)) c from rfl, ← List.map_set]
  congr 1
  rw [List.replicate_succ']
  rw [List.append_assoc, List.set_append_right _ _ (by simp)]
  simp
theorem digRow_size {acc : Lx.Bs} (h : acc.length ≤ 11) : (digRow acc).size = 11 := by unfold digRow bcells; simp; omega
theorem digRow_get {acc : Lx.Bs} (h : acc.length ≤ 11) (p : Nat) (hp : p < 11) : ∃ v, (digRow acc)[p]? = some v := ⟨(digRow acc)[p]'(by rw [digRow_size h]; exact hp), Array.getElem?_eq_getElem _⟩
theorem slice_eleven (g p : Nat) (hp : p + 1 ≤ 10) (W : World) : (Instr.sliceAt 108 (.pointer (some ⟨g, 0, none⟩)) (some (.int .i64 ((p : Int) + 1))) none none).run Try.prog W = .ok (.slice (some ⟨g, p + 1, none⟩) (10 - p) (10 - p)) W := by
  have hl : Try.prog.arrayLen 108 = 11 := by kernel_rfl
  have hs : (sizeOf (Try.prog.elem 108)).run Try.prog W = .ok 1 W := size_u8 W
  rw [run_sliceAt_array_l (P := Try.prog) W 108 ⟨g, 0, none⟩ (by kernel_rfl) .i64 ((p : Int) + 1) (by omega) (by rw [hl]; omega), hs, hl]
  have e : ((p : Int) + 1).toNat = p + 1 := by omega
  show Result.ok (slicedAt _ _ _ _ _) W = _
  unfold slicedAt
  rw [e, if_neg (by omega), Nat.mul_one, add_plain]
  simp
set_option maxHeartbeats 4000000 in
theorem wrapdigits (a : Nat) (ha : a ≤ 2147483647) (w : World) : Calls Try.prog 79 #[.int .i32 (a : Int)] w fun e w' => e = .returned (.string ⟨(digits (a : Int)).toArray⟩) ∧ Below w.heap.size w w' := by
  have hd : digits (a : Int) = digitsF 10 a [] := by unfold digits; rw [if_neg (by omega)]; rfl
  rw [hd]
  clear hd
  obtain ⟨fin, hfin⟩ : ∃ fin, fin = digitsF 10 a [] := ⟨_, rfl⟩
  rw [← hfin]
  have HF := Lib.hid hfin
  clear hfin
  go_enter Try.func79, Try.ntmps79
  go_wp2_with fail
  go_loopw [4, 5] (fun i n wr => ∃ (p m : Nat) (acc : Lx.Bs), i = .int .i64 ((p + 1 : Nat) : Int) ∧ n = .int .i64 (m : Nat) ∧ 1 ≤ p ∧ p ≤ 10 ∧ acc.length + p + 1 = 11 ∧ m < 10 ^ p ∧ m ≤ 2147483647 ∧ Hid (fin = digitsF p m acc) ∧ Hid (wr.heap[w.heap.size]? = some (.cells (digRow acc) 108 (0, 0))) ∧ Below w.heap.size w wr) (fun i _ _ => (intOf i).toNat)
  case atStart => exact ⟨10, a, [], rfl, rfl, by omega, by omega, rfl, by omega, ha, HF.out, heap_alloc_new _ _, (Below.refl _ _).alloc (Nat.le_refl _) _⟩
  case round =>
    obtain ⟨p, m, acc, rfl, rfl, hp1, hp, hacc, hm, hm2, HD, HR, hb⟩ := hrel
    obtain ⟨v, hv⟩ := digRow_get (acc := acc) (by omega) p (by omega)
    have hc := (cell_of_row wr w.heap.size p _ _ _ HR.out).trans hv
    have hfz := frozen_of_row wr w.heap.size p _ _ HR.out
    clear hv
    obtain ⟨p, rfl⟩ : ∃ q, p = q + 1 := ⟨p - 1, by omega⟩
    have hst := digitsF_step p m acc
    have HB1 := Lib.hid (hb.setCell (p := ⟨w.heap.size, p + 1, none⟩) (Nat.le_refl _) (.int .u8 (48 + (m : Int) % 10)))
    have hr1 := heap_setCell_same wr w.heap.size (p + 1) _ _ (.int .u8 (48 + (m : Int) % 10)) HR.out
    rw [digRow_set (c := dg m) (by omega) _ (dg_val m)] at hr1
    by_cases h0 : m / 10 = 0
    · have b0 : ((m : Int) / 10 == 0) = true := by rw [beq_iff_eq]; omega
      rw [if_pos h0] at hst
      have HFIN : Hid (fin = dg m :: acc) := HD.out.trans hst
      have hlen : (dg m :: acc).length = 10 - p := by simp; omega
      have hba : BytesAt (wr.setCell ⟨w.heap.size, p + 1, none⟩ (.int .u8 (48 + (m : Int) % 10))) (some ⟨w.heap.size, p + 1, none⟩) (dg m :: acc) := by
        intro k hk
        refine ⟨w.heap.size, p + 1, rfl, ?_⟩
        rw [cell_of_row _ _ _ _ _ _ hr1]
        unfold digRow
        rw [List.getElem?_toArray]
        unfold bcells
        rw [List.getElem?_map, List.getElem?_append_right (by simp; omega)]
        simp only [List.length_replicate]
        rw [show p + 1 + k - (11 - (dg m :: acc).length) = k by omega, List.getElem?_eq_getElem hk]
        rfl
      have hcv := conv_bytes _ _ (10 - p) _ hba
      rw [hlen] at hcv
      have hsl := slice_eleven w.heap.size p (by omega)
      clear hst hba hr1 h0
      go_wp2_with fail
      go_ret
      exact ⟨by rw [HFIN.out]; rfl, HB1.out⟩
    · have b0 : ((m : Int) / 10 == 0) = false := by rw [beq_eq_false_iff_ne]; omega
      rw [if_neg h0] at hst
      have HD1 : Hid (fin = digitsF p (m / 10) (dg m :: acc)) := HD.out.trans hst
      have HR1 := Lib.hid hr1
      have hpow : (10 : Nat) ^ (p + 1) = 10 * 10 ^ p := by rw [Nat.pow_succ, Nat.mul_comm]
      have hm3 : m / 10 < 10 ^ p := by omega
      have hp3 : 1 ≤ p := by
        rcases p with _ | q
        · simp at hm3; omega
        · omega
      clear hst hr1 hpow hm
      go_wp2_with fail
      go_roundw
      case rel => exact ⟨p, m / 10, dg m :: acc, by go_num, by go_num, hp3, by omega, by simp; omega, hm3, by omega, HD1, HR1, HB1.out⟩
      case measure => simp [intOf]; omega
theorem refsize (a : Nat) (ha : a ≤ 2147483647) (w : World) : Calls Try.prog 109 #[.int .i32 (a : Int)] w fun e w' => e = .returned (.int .i64 (a : Nat)) ∧ w = w' := by
  go_enter Try.func109, Try.ntmps109
  go_wp2_with fail
  go_ret
  exact ⟨rfl, rfl⟩
theorem conv_one (W : World) (m : Nat) : (convert 109 9 (.slice (some ⟨W.heap.size, 0, none⟩) 1 1)).run Try.prog (W.alloc (.cells #[.int .u8 (48 + (m : Int) % 10)] 5)) = .ok (.string ⟨#[dg m]⟩) (W.alloc (.cells #[.int .u8 (48 + (m : Int) % 10)] 5)) := by
  have h : BytesAt (W.alloc (.cells #[.int .u8 (48 + (m : Int) % 10)] 5)) (some ⟨W.heap.size, 0, none⟩) [dg m] := by
    intro k hk
    obtain rfl : k = 0 := by simp at hk; omega
    refine ⟨_, _, rfl, ?_⟩
    rw [cell_of_row _ _ _ _ _ _ (heap_alloc_new W _)]
    rw [← dg_val m]
    rfl
  exact conv_bytes _ _ 1 _ h
set_option maxHeartbeats 4000000 in
theorem refdigits (a : Nat) (ha : a ≤ 2147483647) (w : World) : Calls Try.prog 83 #[.int .i32 (a : Int)] w fun e w' => e = .returned (.string ⟨(digits (a : Int)).toArray⟩) ∧ Below w.heap.size w w' := by
  have hd : digits (a : Int) = digitsF 10 a [] := by unfold digits; rw [if_neg (by omega)]; rfl
  rw [hd]
  clear hd
  obtain ⟨fin, hfin⟩ : ∃ fin, fin = digitsF 10 a [] := ⟨_, rfl⟩
  rw [← hfin]
  have HF := Lib.hid hfin
  clear hfin
  go_enter Try.func83, Try.ntmps83
  go_wp2_with fail
  refine (refsize a ha _).mono ?_
  rintro e w' ⟨rfl, rfl⟩
  go_wp2_with fail
  go_loopw [3, 4] (fun n s wr => ∃ (p m : Nat) (acc : Lx.Bs), n = .int .i64 (m : Nat) ∧ s = .string ⟨acc.toArray⟩ ∧ 1 ≤ p ∧ p ≤ 10 ∧ acc.length ≤ 10 - p ∧ m < 10 ^ p ∧ m ≤ 2147483647 ∧ Hid (fin = digitsF p m acc) ∧ Below w.heap.size w wr) (fun n _ _ => (intOf n).toNat)
  case atStart => exact ⟨10, a, [], rfl, rfl, by omega, by omega, by simp, by omega, ha, HF.out, Below.refl _ _⟩
  case round =>
    obtain ⟨p, m, acc, rfl, rfl, hp1, hp, hacc, hm, hm2, HD, hb⟩ := hrel
    obtain ⟨p, rfl⟩ : ∃ q, p = q + 1 := ⟨p - 1, by omega⟩
    have hst := digitsF_step p m acc
    have hcv := conv_one wr m
    by_cases h0 : m / 10 = 0
    · have b0 : ¬ (9 : Int) < (m : Int) := by omega
      rw [if_pos h0] at hst
      have HFIN : Hid (fin = dg m :: acc) := HD.out.trans hst
      have hmm : (m : Int) % 10 = (m : Int) := by omega
      rw [hmm] at hcv
      have HB1 := Lib.hid (hb.alloc hb.size (.cells #[.int .u8 (48 + (m : Int))] 5))
      clear hst h0 hmm
      go_wp2_with fail
      go_ret
      exact ⟨by rw [HFIN.out]; simp [ba_append], HB1.out⟩
    · have b0 : (9 : Int) < (m : Int) := by omega
      rw [if_neg h0] at hst
      have HD1 : Hid (fin = digitsF p (m / 10) (dg m :: acc)) := HD.out.trans hst
      have HB1 := Lib.hid (hb.alloc hb.size (.cells #[.int .u8 (48 + (m : Int) % 10)] 5))
      have hpow : (10 : Nat) ^ (p + 1) = 10 * 10 ^ p := by rw [Nat.pow_succ, Nat.mul_comm]
      have hm3 : m / 10 < 10 ^ p := by omega
      have hp3 : 1 ≤ p := by
        rcases p with _ | q
        · simp at hm3; omega
        · omega
      clear hst hpow hm
      go_wp2_with fail
      go_roundw
      case rel => exact ⟨p, m / 10, dg m :: acc, by go_num, by simp [ba_append], hp3, by omega, by simp; omega, hm3, by omega, HD1, HB1.out⟩
      case measure => simp [intOf]; omega
end Go.Proofs.Ytilkilffkjhhbaa
