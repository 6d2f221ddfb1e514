/-
  The small functions of the package lex and of its reference: which signs are letters, digits, blanks.
-/
import Derived.Test.YtjgklpjmbogimaaRows
import Derived.Test.YtjgklpjmbogimaaLexPlain
import Derived.WalkKit
import Derived.WalkSpells
import Derived.WalkLawsBesides
import Derived.Handy
import Derived.Lib.Hide
import Derived.LoopTactic
namespace Go.Proofs.Ytjgklpjmbogimaa
open Go.RowKit

theorem ret_bool {a b : Bool} (h : b = a) : Ending.returned (.bool a) = .returned (.bool b) := by rw [h]
theorem ret_int {k : IntKind} {a b : Int} (h : b = a) : Ending.returned (.int k a) = .returned (.int k b) := by rw [h]
theorem letter_yes {c : Int} (h1 : 97 ≤ c) (h2 : c ≤ 122) : Lx.letter c = true := by simp [Lx.letter, h1, h2]
theorem letter_no {c : Int} (h : c < 97 ∨ 122 < c) : Lx.letter c = false := by simp [Lx.letter]; omega
theorem digit_yes {c : Int} (h1 : 48 ≤ c) (h2 : c ≤ 57) : Lx.digit c = true := by simp [Lx.digit, h1, h2]
theorem digit_no {c : Int} (h : c < 48 ∨ 57 < c) : Lx.digit c = false := by simp [Lx.digit]; omega

theorem lexletter_any (c : Int) (w : World) :
    Calls Try.prog 19 #[.int .i32 c] w fun e w' => e = .returned (.bool (Lx.letter c)) ∧ w = w' := by
  by_cases h1 : 97 ≤ c
  · by_cases h2 : c ≤ 122
    · rw [letter_yes h1 h2]
      go_enter Try.func19, Try.ntmps19
      go_wp2
      go_ret
      exact ⟨rfl, rfl⟩
    · rw [letter_no (by omega)]
      go_enter Try.func19, Try.ntmps19
      go_wp2
      go_ret
      exact ⟨rfl, rfl⟩
  · rw [letter_no (by omega)]
    go_enter Try.func19, Try.ntmps19
    go_wp2
    go_ret
    exact ⟨rfl, rfl⟩
theorem lexdigit_any (c : Int) (w : World) :
    Calls Try.prog 27 #[.int .i32 c] w fun e w' => e = .returned (.bool (Lx.digit c)) ∧ w = w' := by
  by_cases h1 : 48 ≤ c
  · by_cases h2 : c ≤ 57
    · rw [digit_yes h1 h2]
      go_enter Try.func27, Try.ntmps27
      go_wp2
      go_ret
      exact ⟨rfl, rfl⟩
    · rw [digit_no (by omega)]
      go_enter Try.func27, Try.ntmps27
      go_wp2
      go_ret
      exact ⟨rfl, rfl⟩
  · rw [digit_no (by omega)]
    go_enter Try.func27, Try.ntmps27
    go_wp2
    go_ret
    exact ⟨rfl, rfl⟩
theorem refletter_any (c : Int) (w : World) :
    Calls Try.prog 23 #[.int .u8 c] w fun e w' => e = .returned (.bool (Lx.letter c)) ∧ w = w' := by
  by_cases h1 : 97 ≤ c
  · by_cases h2 : c ≤ 122
    · rw [letter_yes h1 h2]
      go_enter Try.func23, Try.ntmps23
      go_wp2
      go_ret
      exact ⟨rfl, rfl⟩
    · rw [letter_no (by omega)]
      go_enter Try.func23, Try.ntmps23
      go_wp2
      go_ret
      exact ⟨rfl, rfl⟩
  · rw [letter_no (by omega)]
    go_enter Try.func23, Try.ntmps23
    go_wp2
    go_ret
    exact ⟨rfl, rfl⟩
theorem refdigit_any (c : Int) (w : World) :
    Calls Try.prog 28 #[.int .u8 c] w fun e w' => e = .returned (.bool (Lx.digit c)) ∧ w = w' := by
  by_cases h1 : 48 ≤ c
  · by_cases h2 : c ≤ 57
    · rw [digit_yes h1 h2]
      go_enter Try.func28, Try.ntmps28
      go_wp2
      go_ret
      exact ⟨rfl, rfl⟩
    · rw [digit_no (by omega)]
      go_enter Try.func28, Try.ntmps28
      go_wp2
      go_ret
      exact ⟨rfl, rfl⟩
  · rw [digit_no (by omega)]
    go_enter Try.func28, Try.ntmps28
    go_wp2
    go_ret
    exact ⟨rfl, rfl⟩
theorem lexblank_any (c : Int) (w : World) :
    Calls Try.prog 29 #[.int .i32 c] w fun e w' => e = .returned (.bool (Lx.blank c)) ∧ w = w' := by
  by_cases h1 : c = 32
  · subst h1
    go_enter Try.func29, Try.ntmps29
    go_wp2
    go_ret
    exact ⟨rfl, rfl⟩
  · by_cases h2 : c = 9
    · subst h2
      go_enter Try.func29, Try.ntmps29
      go_wp2
      go_ret
      exact ⟨rfl, rfl⟩
    · by_cases h3 : c = 10
      · subst h3
        go_enter Try.func29, Try.ntmps29
        go_wp2
        go_ret
        exact ⟨rfl, rfl⟩
      · by_cases h4 : c = 13
        · subst h4
          go_enter Try.func29, Try.ntmps29
          go_wp2
          go_ret
          exact ⟨rfl, rfl⟩
        · have hb : Lx.blank c = false := by simp [Lx.blank, h1, h2, h3, h4]
          rw [hb]
          clear hb
          have g1 : (c == 32) = false := by simp [h1]
          have g2 : (c == 9) = false := by simp [h2]
          have g3 : (c == 10) = false := by simp [h3]
          have g4 : (c == 13) = false := by simp [h4]
          clear h1 h2 h3 h4
          go_enter Try.func29, Try.ntmps29
          go_wp2
          go_ret
          exact ⟨rfl, rfl⟩
theorem lexother_any (c : Int) (w : World) :
    Calls Try.prog 30 #[.int .i32 c] w fun e w' => e = .returned (.bool (Lx.other c)) ∧ w = w' := by
  unfold Lx.other
  go_enter Try.func30, Try.ntmps30
  go_wp2
  go_ret
  exact ⟨rfl, rfl⟩
theorem lexinner_any (c : Int) (w : World) :
    Calls Try.prog 21 #[.int .i32 c] w fun e w' => e = .returned (.bool (Lx.inner c)) ∧ w = w' := by
  unfold Lx.inner
  rcases h1 : Lx.letter c with _ | _
  · rcases h2 : Lx.digit c with _ | _
    · have H1 := Lib.hid h1
      have H2 := Lib.hid h2
      clear h1 h2
      go_enter Try.func21, Try.ntmps21
      go_wp2_with (first | (go_at_call 19; refine (lexletter_any _ _).mono ?_; rintro e w' ⟨rfl, rfl⟩; rw [H1.out]) | (go_at_call 27; refine (lexdigit_any _ _).mono ?_; rintro e w' ⟨rfl, rfl⟩; rw [H2.out]))
      go_ret
      exact ⟨rfl, rfl⟩
    · have H1 := Lib.hid h1
      have H2 := Lib.hid h2
      clear h1 h2
      go_enter Try.func21, Try.ntmps21
      go_wp2_with (first | (go_at_call 19; refine (lexletter_any _ _).mono ?_; rintro e w' ⟨rfl, rfl⟩; rw [H1.out]) | (go_at_call 27; refine (lexdigit_any _ _).mono ?_; rintro e w' ⟨rfl, rfl⟩; rw [H2.out]))
      go_ret
      exact ⟨rfl, rfl⟩
  · have H1 := Lib.hid h1
    clear h1
    go_enter Try.func21, Try.ntmps21
    go_wp2_with (first | (go_at_call 19; refine (lexletter_any _ _).mono ?_; rintro e w' ⟨rfl, rfl⟩; rw [H1.out]))
    go_ret
    exact ⟨rfl, rfl⟩

/-! head: the bytes at a text's beginning that are all of a kind; the program goes by runes, which comes to the same -/
theorem cont_high (s : ByteArray) (pos : Nat) (h : pos < s.size) (ha : 128 ≤ (s[pos]'h).toNat) :
    pos + (Utf8.decode s pos).2 ≤ s.size ∧ ∀ j (hj : j < s.size), pos ≤ j → j < pos + (Utf8.decode s pos).2 → 128 ≤ (s[j]'hj).toNat := by
  have hn : ¬ (s[pos]'h).toNat < 128 := by omega
  have key : ∀ k, pos + k < s.size → (s.get! (pos + k)).toNat / 64 = 2 → ∀ (hj : pos + k < s.size), 128 ≤ (s[pos + k]'hj).toNat := by
    intro k hk h2 hj
    have e : s.get! (pos + k) = s[pos + k]'hj := by
      have := get_at s (pos + k) hj
      rwa [Nat.add_zero] at this
    rw [e] at h2
    omega
  have split4 : ∀ (n : Nat), (Utf8.decode s pos).2 = n → n ≤ 4 → (1 < n → pos + 1 < s.size ∧ (s.get! (pos + 1)).toNat / 64 = 2) → (2 < n → pos + 2 < s.size ∧ (s.get! (pos + 2)).toNat / 64 = 2) → (3 < n → pos + 3 < s.size ∧ (s.get! (pos + 3)).toNat / 64 = 2) → pos + n ≤ s.size ∧ ∀ j (hj : j < s.size), pos ≤ j → j < pos + n → 128 ≤ (s[j]'hj).toNat := by
    intro n _ h4 k1 k2 k3
    refine ⟨?_, ?_⟩
    · rcases Nat.lt_or_ge 1 n with h | h
      · rcases Nat.lt_or_ge 2 n with h' | h'
        · rcases Nat.lt_or_ge 3 n with h'' | h''
          · have := (k3 h'').1; omega
          · have := (k2 h').1; omega
        · have := (k1 h).1; omega
      · omega
    · intro j hj h0 h1
      obtain ⟨d, rfl⟩ : ∃ d, j = pos + d := ⟨j - pos, by omega⟩
      rcases (show d = 0 ∨ d = 1 ∨ d = 2 ∨ d = 3 by omega) with rfl | rfl | rfl | rfl
      · simpa using ha
      · exact key 1 (k1 (by omega)).1 (k1 (by omega)).2 _
      · exact key 2 (k2 (by omega)).1 (k2 (by omega)).2 _
      · exact key 3 (k3 (by omega)).1 (k3 (by omega)).2 _
  have hd : (Utf8.decode s pos).2 = 1 ∨ ((Utf8.decode s pos).2 = 2 ∧ pos + 1 < s.size ∧ (s.get! (pos + 1)).toNat / 64 = 2) ∨
      ((Utf8.decode s pos).2 = 3 ∧ (pos + 1 < s.size ∧ (s.get! (pos + 1)).toNat / 64 = 2) ∧ (pos + 2 < s.size ∧ (s.get! (pos + 2)).toNat / 64 = 2)) ∨
      ((Utf8.decode s pos).2 = 4 ∧ (pos + 1 < s.size ∧ (s.get! (pos + 1)).toNat / 64 = 2) ∧ (pos + 2 < s.size ∧ (s.get! (pos + 2)).toNat / 64 = 2) ∧ (pos + 3 < s.size ∧ (s.get! (pos + 3)).toNat / 64 = 2)) := by
    simp only [Utf8.decode, get_at s pos h, hn, if_false, Bool.and_eq_true, decide_eq_true_eq, beq_iff_eq]
    split
    · rename_i hc
      split
      · exact .inr (.inl ⟨rfl, hc.2⟩)
      · exact .inl rfl
    · split
      · rename_i hc
        split
        · exact .inr (.inr (.inl ⟨rfl, hc.1.2, hc.2⟩))
        · exact .inl rfl
      · split
        · rename_i hc
          split
          · exact .inr (.inr (.inr ⟨rfl, hc.1.1.2, hc.1.2, hc.2⟩))
          · exact .inl rfl
        · exact .inl rfl
  rcases hd with e | ⟨e, k1⟩ | ⟨e, k1, k2⟩ | ⟨e, k1, k2, k3⟩
  · rw [e]; exact split4 1 e (by omega) (by omega) (by omega) (by omega)
  · rw [e]; exact split4 2 e (by omega) (fun _ => k1) (by omega) (by omega)
  · rw [e]; exact split4 3 e (by omega) (fun _ => k1) (fun _ => k2) (by omega)
  · rw [e]; exact split4 4 e (by omega) (fun _ => k1) (fun _ => k2) (fun _ => k3)
end Go.Proofs.Ytjgklpjmbogimaa
