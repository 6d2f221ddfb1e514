/-
  The function Read of the package wrap, at texts of digits alone.
-/
import Derived.Test.YtjgklpjmbogimaaLexD
namespace Go.Proofs.Ytjgklpjmbogimaa
open Go.RowKit
attribute [local go_sem] ex_take ex_drop ba_get

def AllDigits (l : List UInt8) : Prop := ∀ c ∈ l, Lx.bp Lx.digit c = true
theorem digit_bd {c : UInt8} (h : Lx.bp Lx.digit c = true) : 48 ≤ (c.toNat : Int) ∧ (c.toNat : Int) ≤ 57 := by
  unfold Lx.bp Lx.digit at h
  simpa using h
theorem numVal_snoc (l : List UInt8) (k : Nat) (h : k < l.length) : Lx.numVal (l.take (k + 1)) = 10 * Lx.numVal (l.take k) + (((l[k]'h).toNat : Int) - 48) := by
  unfold Lx.numVal
  rw [List.take_succ_eq_append_getElem h, List.foldl_append]
  rfl
theorem numVal_bd (l : List UInt8) (hd : AllDigits l) : ∀ k, k ≤ l.length → k ≤ 11 → 0 ≤ Lx.numVal (l.take k) ∧ Lx.numVal (l.take k) + 1 ≤ 10 ^ k
  | 0, _, _ => by simp [Lx.numVal]
  | k + 1, h, h11 => by
    have ih := numVal_bd l hd k (by omega) (by omega)
    have hc := digit_bd (hd (l[k]'(by omega)) (List.getElem_mem _))
    rw [numVal_snoc l k (by omega), Int.pow_succ]
    omega
theorem pow_le (k : Nat) (h : k ≤ 11) : (10 : Int) ^ k ≤ 100000000000 := by
  have : ∀ j, j ≤ 11 → (10 : Int) ^ j ≤ 100000000000 := by decide
  exact this k h
theorem numVal_big (l : List UInt8) (hd : AllDigits l) (k : Nat) (h : k ≤ l.length) (h11 : l.length ≤ 11) : 0 ≤ Lx.numVal (l.take k) ∧ Lx.numVal (l.take k) ≤ 99999999999 := by
  have h1 := numVal_bd l hd k h (by omega)
  have h2 := pow_le k (by omega)
  omega
theorem headD_at {l : List UInt8} (h : 0 < l.length) : l.headD 0 = l[0]'h := by cases l with | nil => simp at h | cons c r => rfl
theorem wrap32_of {n : Int} (h : 0 ≤ n) (h2 : n ≤ 99999999999) (h3 : 2147483647 < n) : (wrap64 (wrap32 n) != n) = true := by
  rw [bne_iff_ne]; unfold wrap64 wrap32; omega
set_option maxHeartbeats 2000000 in
theorem wrapread (l : List UInt8) (h0 : l ≠ []) (hd : AllDigits l) (hl : l.length ≤ maxLen) (w : World) :
    Calls Try.prog 31 #[.string ⟨l.toArray⟩] w fun e w' => e = .returned (.tuple #[.int .i32 (if Lx.readOk l then Lx.numVal l else 0), .bool (Lx.readOk l)]) ∧ w = w' := by
  unfold maxLen at hl
  have hp : 0 < l.length := List.length_pos_iff.2 h0
  have hc := digit_bd (hd (l[0]'hp) (List.getElem_mem _))
  have h45 : (((l[0]'hp).toNat : Int) == 45) = false := by simp; omega
  have he : (l == []) = false := by rw [beq_eq_false_iff_ne]; exact h0
  have hne : (l != []) = true := by rw [bne_iff_ne]; exact h0
  clear h0
  by_cases h11 : 11 < l.length
  · have hok : Lx.readOk l = false := by unfold Lx.readOk; simp; omega
    rw [hok]
    go_enter Try.func31, Try.ntmps31
    go_wp2
    go_ret2
    exact ⟨rfl, rfl⟩
  · by_cases hz : (l[0]'hp).toNat = 48 ∧ l ≠ [48]
    · have hok : Lx.readOk l = false := by
        unfold Lx.readOk
        have e1 : l.headD 0 = 48 := by rw [headD_at hp]; exact UInt8.toNat_inj.1 hz.1
        have e2 : (l != [48]) = true := by rw [bne_iff_ne]; exact hz.2
        rw [e1, e2]; simp
      rw [hok]
      have hz1 : (((l[0]'hp).toNat : Int) == 48) = true := by simp; omega
      have hz2 : (l == [48]) = false := by rw [beq_eq_false_iff_ne]; exact hz.2
      clear hz
      go_enter Try.func31, Try.ntmps31
      go_wp2
      go_ret2
      exact ⟨rfl, rfl⟩
    · have hz' : (((l[0]'hp).toNat : Int) == 48) = false ∨ ((((l[0]'hp).toNat : Int) == 48) = true ∧ (l == [48]) = true) := by
        by_cases e1 : (l[0]'hp).toNat = 48
        · by_cases e2 : l = [48]
          · right; exact ⟨by simp; omega, by rw [beq_iff_eq]; exact e2⟩
          · exact absurd ⟨e1, e2⟩ hz
        · left; simp; omega
      have hok : Lx.readOk l = decide (Lx.numVal l ≤ 2147483647) := by
        unfold Lx.readOk
        have e0 : decide (l.length ≤ 11) = true := by simp; omega
        have e1 : (!(l.headD 0 == 48 && l != [48])) = true := by
          rw [headD_at hp]
          rcases hq : ((l[0]'hp) == 48) with _ | _
          · rfl
          · rw [beq_iff_eq] at hq
            have : l = [48] := by
              by_cases e2 : l = [48]
              · exact e2
              · exact absurd ⟨by rw [hq]; rfl, e2⟩ hz
            rw [this]; rfl
        rw [e0, e1]; simp
      clear hz
      have hall := numVal_big l hd l.length (Nat.le_refl _) (by omega)
      rw [List.take_length] at hall
      have HD := Lib.hid hd
      clear hd
      by_cases hm : Lx.numVal l ≤ 2147483647
      · have hok2 : Lx.readOk l = true := by rw [hok]; simpa using hm
        rw [hok2, if_pos rfl]
        clear hok hok2
        rcases hz' with g1 | ⟨g1, g2⟩
        all_goals
          go_enter Try.func31, Try.ntmps31
          go_wp2
          go_loop [6, 37] (fun n i => ∃ k : Nat, k ≤ l.length ∧ i = .int .i64 k ∧ n = .int .i64 (Lx.numVal (l.take k))) (fun _ i => l.length - (intOf i).toNat)
          case atStart => exact ⟨0, Nat.zero_le _, rfl, rfl⟩
          case round =>
            obtain ⟨k, hk, rfl, rfl⟩ := hrel
            have hb := numVal_big l HD.out k hk (by omega)
            by_cases hlt : k < l.length
            · have hck := digit_bd (HD.out (l[k]'hlt) (List.getElem_mem _))
              have HS := Lib.hid (numVal_snoc l k hlt)
              go_wp2
              go_round
              case rel => exact ⟨k + 1, by omega, by go_num, by rw [HS.out]⟩
              case measure => simp [intOf]; omega
            · obtain rfl : k = l.length := by omega
              rw [List.take_length] at hb ⊢
              go_wp2
              go_ret2
              exact ⟨rfl, rfl⟩
      · have hok2 : Lx.readOk l = false := by rw [hok]; simpa using hm
        rw [hok2]
        have hw := wrap32_of hall.1 hall.2 (by omega)
        clear hok hok2
        rcases hz' with g1 | ⟨g1, g2⟩
        all_goals
          go_enter Try.func31, Try.ntmps31
          go_wp2
          go_loop [6, 37] (fun n i => ∃ k : Nat, k ≤ l.length ∧ i = .int .i64 k ∧ n = .int .i64 (Lx.numVal (l.take k))) (fun _ i => l.length - (intOf i).toNat)
          case atStart => exact ⟨0, Nat.zero_le _, rfl, rfl⟩
          case round =>
            obtain ⟨k, hk, rfl, rfl⟩ := hrel
            have hb := numVal_big l HD.out k hk (by omega)
            by_cases hlt : k < l.length
            · have hck := digit_bd (HD.out (l[k]'hlt) (List.getElem_mem _))
              have HS := Lib.hid (numVal_snoc l k hlt)
              go_wp2
              go_round
              case rel => exact ⟨k + 1, by omega, by go_num, by rw [HS.out]⟩
              case measure => simp [intOf]; omega
            · obtain rfl : k = l.length := by omega
              rw [List.take_length] at hb ⊢
              go_wp2
              go_ret2
              exact ⟨rfl, rfl⟩
end Go.Proofs.Ytjgklpjmbogimaa
