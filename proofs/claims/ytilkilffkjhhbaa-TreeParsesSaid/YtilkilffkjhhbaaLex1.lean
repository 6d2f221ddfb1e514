/-
  The small functions of the package lex and of its reference: which signs are letters, digits, blanks.
  The function head of the package lex: the bytes at a text's beginning that are all of a kind.
  The functions Word, Mark and pass of the package lex.
  The function pass of the package lex: what is left behind blanks and remarks.
  The function Read of the package wrap, at texts of digits alone.
  The function next of the package lex: the token with which a text begins.
  The function next of the package lex at marks, and whole.
  The function Scan of the package lex: the tokens of a text.
  The functions Name of the package lex, and Word, Mark, Name of its reference.
  The functions Text and Same over tokens.
-/
import Derived.Test.YtilkilffkjhhbaaRows
import Derived.Test.YtilkilffkjhhbaaLexPlain
import Derived.WalkKit
import Derived.WalkSpells
import Derived.WalkLawsBesides
import Derived.Handy
import Derived.Lib.Hide
import Derived.LoopTactic
import Derived.LoopN
import Derived.BigQuiet
import Derived.Deep.QuietTactic
namespace Go.Proofs.Ytilkilffkjhhbaa
set_option maxRecDepth 20000
set_option linter.unusedVariables false
open Go.RowKit

theorem ret_bool {a b : Bool} (h : b = a) : Ending.returned (.bool a) = .returned (.bool b) := by rw [h]
theorem ret_int {k : IntKind} {a b : Int} (h : b = a) : Ending.returned (.int k a) = .returned (.int k b) := by rw [h]
theorem letter_yes {c : Int} (h1 : 97 ≤ c) (h2 : c ≤ 122) : Lx.letter c = true := by simp [Lx.letter, h1, h2]
theorem letter_no {c : Int} (h : c < 97 ∨ 122 < c) : Lx.letter c = false := by simp [Lx.letter]; omega
theorem digit_yes {c : Int} (h1 : 48 ≤ c) (h2 : c ≤ 57) : Lx.digit c = true := by simp [Lx.digit, h1, h2]
theorem digit_no {c : Int} (h : c < 48 ∨ 57 < c) : Lx.digit c = false := by simp [Lx.digit]; omega

theorem lexletter_any (c : Int) (w : World) :
    Calls Try.prog 88 #[.int .i32 c] w fun e w' => e = .returned (.bool (Lx.letter c)) ∧ w = w' := by
  by_cases h1 : 97 ≤ c
  · by_cases h2 : c ≤ 122
    · rw [letter_yes h1 h2]
      go_enter Try.func88, Try.ntmps88
      go_wp2
      go_ret
      exact ⟨rfl, rfl⟩
    · rw [letter_no (by omega)]
      go_enter Try.func88, Try.ntmps88
      go_wp2
      go_ret
      exact ⟨rfl, rfl⟩
  · rw [letter_no (by omega)]
    go_enter Try.func88, Try.ntmps88
    go_wp2
    go_ret
    exact ⟨rfl, rfl⟩
theorem lexdigit_any (c : Int) (w : World) :
    Calls Try.prog 91 #[.int .i32 c] w fun e w' => e = .returned (.bool (Lx.digit c)) ∧ w = w' := by
  by_cases h1 : 48 ≤ c
  · by_cases h2 : c ≤ 57
    · rw [digit_yes h1 h2]
      go_enter Try.func91, Try.ntmps91
      go_wp2
      go_ret
      exact ⟨rfl, rfl⟩
    · rw [digit_no (by omega)]
      go_enter Try.func91, Try.ntmps91
      go_wp2
      go_ret
      exact ⟨rfl, rfl⟩
  · rw [digit_no (by omega)]
    go_enter Try.func91, Try.ntmps91
    go_wp2
    go_ret
    exact ⟨rfl, rfl⟩
theorem refletter_any (c : Int) (w : World) :
    Calls Try.prog 101 #[.int .u8 c] w fun e w' => e = .returned (.bool (Lx.letter c)) ∧ w = w' := by
  by_cases h1 : 97 ≤ c
  · by_cases h2 : c ≤ 122
    · rw [letter_yes h1 h2]
      go_enter Try.func101, Try.ntmps101
      go_wp2
      go_ret
      exact ⟨rfl, rfl⟩
    · rw [letter_no (by omega)]
      go_enter Try.func101, Try.ntmps101
      go_wp2
      go_ret
      exact ⟨rfl, rfl⟩
  · rw [letter_no (by omega)]
    go_enter Try.func101, Try.ntmps101
    go_wp2
    go_ret
    exact ⟨rfl, rfl⟩
theorem refdigit_any (c : Int) (w : World) :
    Calls Try.prog 104 #[.int .u8 c] w fun e w' => e = .returned (.bool (Lx.digit c)) ∧ w = w' := by
  by_cases h1 : 48 ≤ c
  · by_cases h2 : c ≤ 57
    · rw [digit_yes h1 h2]
      go_enter Try.func104, Try.ntmps104
      go_wp2
      go_ret
      exact ⟨rfl, rfl⟩
    · rw [digit_no (by omega)]
      go_enter Try.func104, Try.ntmps104
      go_wp2
      go_ret
      exact ⟨rfl, rfl⟩
  · rw [digit_no (by omega)]
    go_enter Try.func104, Try.ntmps104
    go_wp2
    go_ret
    exact ⟨rfl, rfl⟩
theorem lexblank_any (c : Int) (w : World) :
    Calls Try.prog 86 #[.int .i32 c] w fun e w' => e = .returned (.bool (Lx.blank c)) ∧ w = w' := by
  by_cases h1 : c = 32
  · subst h1
    go_enter Try.func86, Try.ntmps86
    go_wp2
    go_ret
    exact ⟨rfl, rfl⟩
  · by_cases h2 : c = 9
    · subst h2
      go_enter Try.func86, Try.ntmps86
      go_wp2
      go_ret
      exact ⟨rfl, rfl⟩
    · by_cases h3 : c = 10
      · subst h3
        go_enter Try.func86, Try.ntmps86
        go_wp2
        go_ret
        exact ⟨rfl, rfl⟩
      · by_cases h4 : c = 13
        · subst h4
          go_enter Try.func86, Try.ntmps86
          go_wp2
          go_ret
          exact ⟨rfl, rfl⟩
        · have hb : Lx.blank c = false := by simp [Lx.blank, h1, h2, h3, h4]
          rw [hb]
          clear hb
          have g1 : (c == 32) = false := by simp [h1]
          have g2 : (c == 9) = false := by simp [h2]
          have g3 : (c == 10) = false := by simp [h3]
          have g4 : (c == 13) = false := by simp [h4]
          clear h1 h2 h3 h4
          go_enter Try.func86, Try.ntmps86
          go_wp2
          go_ret
          exact ⟨rfl, rfl⟩
theorem lexother_any (c : Int) (w : World) :
    Calls Try.prog 87 #[.int .i32 c] w fun e w' => e = .returned (.bool (Lx.other c)) ∧ w = w' := by
  unfold Lx.other
  go_enter Try.func87, Try.ntmps87
  go_wp2
  go_ret
  exact ⟨rfl, rfl⟩
theorem lexinner_any (c : Int) (w : World) :
    Calls Try.prog 89 #[.int .i32 c] w fun e w' => e = .returned (.bool (Lx.inner c)) ∧ w = w' := by
  unfold Lx.inner
  rcases h1 : Lx.letter c with _ | _
  · rcases h2 : Lx.digit c with _ | _
    · have H1 := Lib.hid h1
      have H2 := Lib.hid h2
      clear h1 h2
      go_enter Try.func89, Try.ntmps89
      go_wp2_with (first | (go_at_call 88; refine (lexletter_any _ _).mono ?_; rintro e w' ⟨rfl, rfl⟩; rw [H1.out]) | (go_at_call 91; refine (lexdigit_any _ _).mono ?_; rintro e w' ⟨rfl, rfl⟩; rw [H2.out]))
      go_ret
      exact ⟨rfl, rfl⟩
    · have H1 := Lib.hid h1
      have H2 := Lib.hid h2
      clear h1 h2
      go_enter Try.func89, Try.ntmps89
      go_wp2_with (first | (go_at_call 88; refine (lexletter_any _ _).mono ?_; rintro e w' ⟨rfl, rfl⟩; rw [H1.out]) | (go_at_call 91; refine (lexdigit_any _ _).mono ?_; rintro e w' ⟨rfl, rfl⟩; rw [H2.out]))
      go_ret
      exact ⟨rfl, rfl⟩
  · have H1 := Lib.hid h1
    clear h1
    go_enter Try.func89, Try.ntmps89
    go_wp2_with (first | (go_at_call 88; refine (lexletter_any _ _).mono ?_; rintro e w' ⟨rfl, rfl⟩; rw [H1.out]))
    go_ret
    exact ⟨rfl, rfl⟩

/-! head: the bytes at a text's beginning that are all of a kind; the program goes by runes, which comes to the same -/
theorem cont_high (s : ByteArray) (pos : Nat) (h : pos < s.size) (ha : 128 ≤ (s[pos]'h).toNat) :
    pos + (Utf8.decode s pos).2 ≤ s.size ∧ ∀ j (hj : j < s.size), pos ≤ j → j < pos + (Utf8.decode s pos).2 → 128 ≤ (s[j]'hj).toNat := by
  have hn : ¬ (s[pos]'h).toNat < 128 := by omega
  have key : ∀ k, pos + k < s.size → (s.get! (pos + k)).toNat / 64 = 2 → ∀ (hj : pos + k < s.size), 128 ≤ (s[pos + k]'hj).toNat := by
    intro k hk h2 hj
    have e : s.get! (pos + k) = s[pos + k]'hj := by
      have := get_at s (pos + k) hj
      rwa [Nat.add_zero] at this
    rw [e] at h2
    omega
  have split4 : ∀ (n : Nat), (Utf8.decode s pos).2 = n → n ≤ 4 → (1 < n → pos + 1 < s.size ∧ (s.get! (pos + 1)).toNat / 64 = 2) → (2 < n → pos + 2 < s.size ∧ (s.get! (pos + 2)).toNat / 64 = 2) → (3 < n → pos + 3 < s.size ∧ (s.get! (pos + 3)).toNat / 64 = 2) → pos + n ≤ s.size ∧ ∀ j (hj : j < s.size), pos ≤ j → j < pos + n → 128 ≤ (s[j]'hj).toNat := by
    intro n _ h4 k1 k2 k3
    refine ⟨?_, ?_⟩
    · rcases Nat.lt_or_ge 1 n with h | h
      · rcases Nat.lt_or_ge 2 n with h' | h'
        · rcases Nat.lt_or_ge 3 n with h'' | h''
          · have := (k3 h'').1; omega
          · have := (k2 h').1; omega
        · have := (k1 h).1; omega
      · omega
    · intro j hj h0 h1
      obtain ⟨d, rfl⟩ : ∃ d, j = pos + d := ⟨j - pos, by omega⟩
      rcases (show d = 0 ∨ d = 1 ∨ d = 2 ∨ d = 3 by omega) with rfl | rfl | rfl | rfl
      · simpa using ha
      · exact key 1 (k1 (by omega)).1 (k1 (by omega)).2 _
      · exact key 2 (k2 (by omega)).1 (k2 (by omega)).2 _
      · exact key 3 (k3 (by omega)).1 (k3 (by omega)).2 _
  have hd : (Utf8.decode s pos).2 = 1 ∨ ((Utf8.decode s pos).2 = 2 ∧ pos + 1 < s.size ∧ (s.get! (pos + 1)).toNat / 64 = 2) ∨
      ((Utf8.decode s pos).2 = 3 ∧ (pos + 1 < s.size ∧ (s.get! (pos + 1)).toNat / 64 = 2) ∧ (pos + 2 < s.size ∧ (s.get! (pos + 2)).toNat / 64 = 2)) ∨
      ((Utf8.decode s pos).2 = 4 ∧ (pos + 1 < s.size ∧ (s.get! (pos + 1)).toNat / 64 = 2) ∧ (pos + 2 < s.size ∧ (s.get! (pos + 2)).toNat / 64 = 2) ∧ (pos + 3 < s.size ∧ (s.get! (pos + 3)).toNat / 64 = 2)) := by
    simp only [Utf8.decode, get_at s pos h, hn, if_false, Bool.and_eq_true, decide_eq_true_eq, beq_iff_eq]
    split
    · rename_i hc
      split
      · exact .inr (.inl ⟨rfl, hc.2⟩)
      · exact .inl rfl
    · split
      · rename_i hc
        split
        · exact .inr (.inr (.inl ⟨rfl, hc.1.2, hc.2⟩))
        · exact .inl rfl
      · split
        · rename_i hc
          split
          · exact .inr (.inr (.inr ⟨rfl, hc.1.1.2, hc.1.2, hc.2⟩))
          · exact .inl rfl
        · exact .inl rfl
  rcases hd with e | ⟨e, k1⟩ | ⟨e, k1, k2⟩ | ⟨e, k1, k2, k3⟩
  · rw [e]; exact split4 1 e (by omega) (by omega) (by omega) (by omega)
  · rw [e]; exact split4 2 e (by omega) (fun _ => k1) (by omega) (by omega)
  · rw [e]; exact split4 3 e (by omega) (fun _ => k1) (fun _ => k2) (by omega)
  · rw [e]; exact split4 4 e (by omega) (fun _ => k1) (fun _ => k2) (fun _ => k3)
end Go.Proofs.Ytilkilffkjhhbaa
namespace Go.Proofs.Ytilkilffkjhhbaa
set_option maxRecDepth 20000
set_option linter.unusedVariables false
open Go.RowKit

/-- up to pos each byte of s is of the kind p -/
def UpTo (p : Int → Bool) (s : ByteArray) (pos : Nat) : Prop := ∀ j (hj : j < s.size), j < pos → p ((s[j]'hj).toNat : Int) = true
/-- what p says of the signs beyond 127 -/
def Plainly (p : Int → Bool) : Prop := (∀ c : Int, 128 ≤ c → p c = false) ∨ (∀ c : Int, 128 ≤ c → p c = true)
theorem upTo_step {p : Int → Bool} {s : ByteArray} {pos : Nat} (hp : Plainly p) (h : pos < s.size) (hu : UpTo p s pos) (hy : p ((Utf8.decode s pos).1 : Int) = true) :
    pos + (Utf8.decode s pos).2 ≤ s.size ∧ UpTo p s (pos + (Utf8.decode s pos).2) ∧ 1 ≤ (Utf8.decode s pos).2 := by
  by_cases ha : (s[pos]'h).toNat < 128
  · rw [decode_ascii s pos h ha] at hy ⊢
    refine ⟨by simp only; omega, fun j hj hlt => ?_, Nat.le_refl _⟩
    simp only at hlt
    rcases Nat.lt_or_ge j pos with h1 | h1
    · exact hu j hj h1
    · obtain rfl : j = pos := by omega
      exact hy
  · have h1 := decode_high s pos h (by omega)
    have h2 := cont_high s pos h (by omega)
    have hall : ∀ c : Int, 128 ≤ c → p c = true := by
      rcases hp with hp | hp
      · rw [hp _ (by omega)] at hy; cases hy
      · exact hp
    refine ⟨h2.1, fun j hj hlt => ?_, h1.2⟩
    rcases Nat.lt_or_ge j pos with h3 | h3
    · exact hu j hj h3
    · exact hall _ (by have := h2.2 j hj h3 hlt; omega)
theorem upTo_stop {p : Int → Bool} {s : ByteArray} {pos : Nat} (hp : Plainly p) (h : pos < s.size) (hy : p ((Utf8.decode s pos).1 : Int) = false) : p ((s[pos]'h).toNat : Int) = false := by
  by_cases ha : (s[pos]'h).toNat < 128
  · rw [decode_ascii s pos h ha] at hy
    exact hy
  · have h1 := decode_high s pos h (by omega)
    rcases hp with hp | hp
    · exact hp _ (by omega)
    · rw [hp _ (by omega)] at hy; cases hy
theorem takeWhile_at (q : UInt8 → Bool) : ∀ (l : List UInt8) (k : Nat), (∀ j (hj : j < l.length), j < k → q l[j] = true) → (k = l.length ∨ ∃ hk : k < l.length, q l[k] = false) → l.takeWhile q = l.take k
  | [], k, _, _ => by simp
  | c :: l, 0, _, h2 => by
    rcases h2 with h2 | ⟨_, h2⟩
    · simp at h2
    · simp at h2
      rw [List.takeWhile_cons_of_neg (by simp [h2])]; rfl
  | c :: l, k + 1, h1, h2 => by
    have hc : q c = true := h1 0 (by simp) (by omega)
    rw [List.takeWhile_cons_of_pos hc, List.take_succ_cons]
    congr 1
    refine takeWhile_at q l k (fun j hj hlt => h1 (j + 1) (by simpa using hj) (by omega)) ?_
    rcases h2 with h2 | ⟨hk, h2⟩
    · left; simpa using h2
    · right; exact ⟨by simpa using hk, by simpa using h2⟩
theorem extract_head (s : ByteArray) (k : Nat) : s.extract 0 k = ⟨(s.data.toList.take k).toArray⟩ := by
  have h := ByteArray.extract_mk s.data.toList 0 k
  simpa using h
theorem extract_all (s : ByteArray) : s.extract 0 s.size = s := by
  rw [extract_head, List.take_of_length_le (show s.data.toList.length ≤ s.size from Nat.le_refl _)]
theorem hd_upTo {p : Int → Bool} {s : ByteArray} {pos : Nat} (hu : UpTo p s pos) (he : pos = s.size ∨ ∃ h : pos < s.size, p ((s[pos]'h).toNat : Int) = false) :
    s.extract 0 pos = ⟨(Lx.hd p s.data.toList).toArray⟩ := by
  have hsz : s.data.toList.length = s.size := rfl
  have hat : ∀ j (hj : j < s.size), s.data.toList[j]'(by rw [hsz]; exact hj) = s[j]'hj := fun j hj => rfl
  have ht : Lx.hd p s.data.toList = s.data.toList.take pos := by
    unfold Lx.hd
    refine takeWhile_at _ _ _ (fun j hj hlt => ?_) ?_
    · exact hu j (by rw [← hsz]; exact hj) hlt
    · rcases he with he | ⟨h, he⟩
      · left; rw [hsz]; exact he
      · right; exact ⟨by rw [hsz]; exact h, he⟩
  rw [ht]
  exact extract_head s pos
set_option maxHeartbeats 400000 in
theorem lexhead_raw (p : Int → Bool) (fn : Nat) (hc : ∀ (args : Array Value) (w : World), (callFunc fn args).run Try.prog w = .ok (.enter fn args) w) (hf : ∀ (c : Int) (w : World), Calls Try.prog fn #[.int .i32 c] w fun e w' => e = .returned (.bool (p c)) ∧ w = w') (hp : Plainly p)
    (s : ByteArray) (_hs : s.size ≤ maxLen) (w : World) :
    Calls Try.prog 85 #[.string s, .func (.func fn) #[] #[]] w fun e w' => e = .returned (.string ⟨(Lx.hd p s.data.toList).toArray⟩) ∧ Below w.heap.size w w' := by
  unfold maxLen at _hs
  have HF := Lib.hid hf
  clear hf
  go_enter Try.func85, Try.ntmps85
  go_wp2
  go_loopw [5] (fun _ w' => ∃ pos, w' = w.iter s pos ∧ pos ≤ s.size ∧ Hid (UpTo p s pos)) (fun _ w' => s.size - w'.iterPos w.heap.size)
  case atStart => exact ⟨0, rfl, Nat.zero_le _, fun j hj h => absurd h (Nat.not_lt_zero _)⟩
  case round =>
    obtain ⟨pos, rfl, hle, hu⟩ := hrel
    by_cases h : pos < s.size
    · have hnx : ∀ ty, (Instr.next (.pointer (some ⟨w.heap.size, 0, none⟩)) true ty).run Try.prog (w.iter s pos) = _ := fun ty => run_next_any w s pos ty h
      rcases hy : p ((Utf8.decode s pos).1 : Int) with _ | _
      · have HY := Lib.hid hy
        clear hy
        go_wp2_with ((with_reducible refine (HF.out _ _).mono ?_); rintro e w' ⟨rfl, rfl⟩; rw [HY.out])
        go_ret
        have hfin := hd_upTo hu.out (.inr ⟨h, upTo_stop hp h HY.out⟩)
        exact ⟨by rw [← hfin]; rfl, (Below.refl _ _).alloc (Nat.le_refl _) _⟩
      · have HY := Lib.hid hy
        clear hy
        go_wp2_with ((with_reducible refine (HF.out _ _).mono ?_); rintro e w' ⟨rfl, rfl⟩; rw [HY.out])
        go_roundw
        case rel =>
          have hst := upTo_step hp h hu.out HY.out
          exact ⟨_, rfl, hst.1, hst.2.1⟩
        case measure =>
          have hst := upTo_step hp h hu.out HY.out
          simp
          omega
    · have hnx : ∀ ty, (Instr.next (.pointer (some ⟨w.heap.size, 0, none⟩)) true ty).run Try.prog (w.iter s pos) = _ := fun ty => run_next_end w s pos ty h
      go_wp2
      go_ret
      obtain rfl : pos = s.size := by omega
      have hfin := hd_upTo hu.out (.inl rfl)
      rw [extract_all] at hfin
      exact ⟨by rw [← hfin]; rfl, (Below.refl _ _).alloc (Nat.le_refl _) _⟩
theorem ex_take (m : List UInt8) (k : Nat) : (ByteArray.mk m.toArray).extract 0 k = ⟨(m.take k).toArray⟩ := by
  rw [ByteArray.extract_mk]; simp
theorem ex_drop (m : List UInt8) (k : Nat) : (ByteArray.mk m.toArray).extract k m.length = ⟨(m.drop k).toArray⟩ := by
  rw [ByteArray.extract_mk, ← List.length_drop, List.take_length]
theorem ba_get (m : List UInt8) (k : Nat) (h : k < (ByteArray.mk m.toArray).size) : (ByteArray.mk m.toArray)[k]'h = m[k]'(by simpa [ByteArray.size] using h) := rfl
abbrev S (l : List UInt8) : Value := .string ⟨l.toArray⟩
theorem lexhead (p : Int → Bool) (fn : Nat) (hc : ∀ (args : Array Value) (w : World), (callFunc fn args).run Try.prog w = .ok (.enter fn args) w) (hf : ∀ (c : Int) (w : World), Calls Try.prog fn #[.int .i32 c] w fun e w' => e = .returned (.bool (p c)) ∧ w = w') (hp : Plainly p)
    (l : List UInt8) (hs : l.length ≤ maxLen) (w : World) :
    Calls Try.prog 85 #[.string ⟨l.toArray⟩, .func (.func fn) #[] #[]] w fun e w' => e = .returned (.string ⟨(Lx.hd p l).toArray⟩) ∧ Below w.heap.size w w' := by
  have h := lexhead_raw p fn hc hf hp ⟨l.toArray⟩ (by simpa [ByteArray.size] using hs) w
  exact h
theorem plainly_inner : Plainly Lx.inner := .inl fun c h => by unfold Lx.inner Lx.letter Lx.digit; simp; omega
theorem plainly_digit : Plainly Lx.digit := .inl fun c h => by unfold Lx.digit; simp; omega
theorem plainly_blank : Plainly Lx.blank := .inl fun c h => by unfold Lx.blank; simp; omega
theorem plainly_other : Plainly Lx.other := .inr fun c h => by unfold Lx.other; simp; omega
theorem head_inner (l : List UInt8) (hs : l.length ≤ maxLen) (w : World) :
    Calls Try.prog 85 #[.string ⟨l.toArray⟩, .func (.func 89) #[] #[]] w fun e w' => e = .returned (.string ⟨(Lx.hd Lx.inner l).toArray⟩) ∧ Below w.heap.size w w' :=
  lexhead Lx.inner 89 (fun args w => by simp [go_sem]) lexinner_any plainly_inner l hs w
theorem head_digit (l : List UInt8) (hs : l.length ≤ maxLen) (w : World) :
    Calls Try.prog 85 #[.string ⟨l.toArray⟩, .func (.func 91) #[] #[]] w fun e w' => e = .returned (.string ⟨(Lx.hd Lx.digit l).toArray⟩) ∧ Below w.heap.size w w' :=
  lexhead Lx.digit 91 (fun args w => by simp [go_sem]) lexdigit_any plainly_digit l hs w
theorem head_blank (l : List UInt8) (hs : l.length ≤ maxLen) (w : World) :
    Calls Try.prog 85 #[.string ⟨l.toArray⟩, .func (.func 86) #[] #[]] w fun e w' => e = .returned (.string ⟨(Lx.hd Lx.blank l).toArray⟩) ∧ Below w.heap.size w w' :=
  lexhead Lx.blank 86 (fun args w => by simp [go_sem]) lexblank_any plainly_blank l hs w
theorem head_other (l : List UInt8) (hs : l.length ≤ maxLen) (w : World) :
    Calls Try.prog 85 #[.string ⟨l.toArray⟩, .func (.func 87) #[] #[]] w fun e w' => e = .returned (.string ⟨(Lx.hd Lx.other l).toArray⟩) ∧ Below w.heap.size w w' :=
  lexhead Lx.other 87 (fun args w => by simp [go_sem]) lexother_any plainly_other l hs w
end Go.Proofs.Ytilkilffkjhhbaa
namespace Go.Proofs.Ytilkilffkjhhbaa
set_option maxRecDepth 20000
set_option linter.unusedVariables false
open Go.RowKit

theorem word_miss {l : List UInt8} (h0 : (l == [110, 111, 100, 101]) = false) (h1 : (l == [114, 101, 116, 117, 114, 110, 115]) = false) (h2 : (l == [118, 97, 114]) = false) (h3 : (l == [108, 101, 116]) = false) (h4 : (l == [116, 101, 108]) = false) (h5 : (l == [105, 102]) = false) (h6 : (l == [116, 104, 101, 110]) = false) (h7 : (l == [101, 108, 115, 101]) = false) (h8 : (l == [102, 98, 121]) = false) (h9 : (l == [112, 114, 101]) = false) (h10 : (l == [119, 104, 101, 110]) = false) (h11 : (l == [117, 110, 108, 101, 115, 115]) = false) (h12 : (l == [109, 101, 114, 103, 101]) = false) (h13 : (l == [110, 111, 116]) = false) (h14 : (l == [116, 114, 117, 101]) = false) (h15 : (l == [102, 97, 108, 115, 101]) = false) (h16 : (l == [105, 110, 116]) = false) (h17 : (l == [98, 111, 111, 108]) = false) : Lx.isWord l = false := by
  unfold Lx.isWord Lx.words
  simp only [List.contains_cons, h0, h1, h2, h3, h4, h5, h6, h7, h8, h9, h10, h11, h12, h13, h14, h15, h16, h17, Bool.false_or]
  rfl
theorem word_hit {l c : List UInt8} (h : (l == c) = true) (hc : Lx.words.contains c = true) : Lx.isWord l = true := by
  rw [beq_iff_eq] at h
  rw [h]
  exact hc
theorem mark_miss {l : List UInt8} (h0 : (l == [60, 60]) = false) (h1 : (l == [62, 62]) = false) (h2 : (l == [60, 62]) = false) (h3 : (l == [60, 61]) = false) (h4 : (l == [62, 61]) = false) (h5 : (l == [45, 62]) = false) (h6 : (l == [40]) = false) (h7 : (l == [41]) = false) (h8 : (l == [58]) = false) (h9 : (l == [44]) = false) (h10 : (l == [59]) = false) (h11 : (l == [61]) = false) (h12 : (l == [60]) = false) (h13 : (l == [62]) = false) (h14 : (l == [43]) = false) (h15 : (l == [45]) = false) (h16 : (l == [42]) = false) (h17 : (l == [47]) = false) (h18 : (l == [37]) = false) (h19 : (l == [38]) = false) (h20 : (l == [124]) = false) (h21 : (l == [94]) = false) : Lx.isMark l = false := by
  unfold Lx.isMark Lx.marks
  simp only [List.contains_cons, h0, h1, h2, h3, h4, h5, h6, h7, h8, h9, h10, h11, h12, h13, h14, h15, h16, h17, h18, h19, h20, h21, Bool.false_or]
  rfl
theorem mark_hit {l c : List UInt8} (h : (l == c) = true) (hc : Lx.marks.contains c = true) : Lx.isMark l = true := by
  rw [beq_iff_eq] at h
  rw [h]
  exact hc

theorem both_false {l c : List UInt8} (h1 : (l == c) = true) (h2 : (l == c) = false) : False := by rw [h1] at h2; cases h2
set_option maxHeartbeats 1000000 in
theorem lexword (l : List UInt8) (w : World) :
    Calls Try.prog 90 #[.string ⟨l.toArray⟩] w fun e w' => e = .returned (.bool (Lx.isWord l)) ∧ w = w' := by
  go_enter Try.func90, Try.ntmps90
  go_wp2
  all_goals first | (exfalso; apply both_false <;> assumption) | skip
  all_goals (go_ret; refine ⟨ret_bool ?_, rfl⟩)
  all_goals first | (apply word_hit <;> first | assumption | decide) | (refine word_miss ?_ ?_ ?_ ?_ ?_ ?_ ?_ ?_ ?_ ?_ ?_ ?_ ?_ ?_ ?_ ?_ ?_ ?_ <;> assumption)
set_option maxHeartbeats 1000000 in
theorem lexmark (l : List UInt8) (w : World) :
    Calls Try.prog 93 #[.string ⟨l.toArray⟩] w fun e w' => e = .returned (.bool (Lx.isMark l)) ∧ w = w' := by
  go_enter Try.func93, Try.ntmps93
  go_wp2
  all_goals first | (exfalso; apply both_false <;> assumption) | skip
  all_goals (go_ret; refine ⟨ret_bool ?_, rfl⟩)
  all_goals first | (apply mark_hit <;> first | assumption | decide) | (refine mark_miss ?_ ?_ ?_ ?_ ?_ ?_ ?_ ?_ ?_ ?_ ?_ ?_ ?_ ?_ ?_ ?_ ?_ ?_ ?_ ?_ ?_ ?_ <;> assumption)
end Go.Proofs.Ytilkilffkjhhbaa
namespace Go.Proofs.Ytilkilffkjhhbaa
set_option maxRecDepth 20000
set_option linter.unusedVariables false
open Go.RowKit
attribute [local go_sem] ex_take ex_drop

def strLen : Value → Nat | .string s => s.size | _ => 0
theorem drop_hd (p : Int → Bool) (l : List UInt8) : l.drop (Lx.hd p l).length = l.dropWhile (Lx.bp p) := by
  have h : Lx.hd p l ++ l.dropWhile (Lx.bp p) = l := List.takeWhile_append_dropWhile
  have e : (Lx.hd p l ++ l.dropWhile (Lx.bp p)).drop (Lx.hd p l).length = l.dropWhile (Lx.bp p) := List.drop_left
  rw [h] at e
  exact e
theorem hd_le (p : Int → Bool) (l : List UInt8) : (Lx.hd p l).length ≤ l.length := (List.takeWhile_sublist _).length_le
set_option maxHeartbeats 1000000 in
theorem lexpass (l : List UInt8) (hl : l.length ≤ maxLen) (w : World) :
    Calls Try.prog 54 #[.string ⟨l.toArray⟩] w fun e w' => e = .returned (.string ⟨(Lx.pass l).toArray⟩) ∧ Below w.heap.size w w' := by
  unfold maxLen at hl
  go_enter Try.func54, Try.ntmps54
  go_wp2_with fail
  go_loopw [0] (fun v w' => ∃ m : List UInt8, v = .string ⟨m.toArray⟩ ∧ m.length ≤ l.length ∧ Hid (Lx.pass m = Lx.pass l) ∧ Below w.heap.size w w') (fun v _ => strLen v)
  case atStart => exact ⟨l, rfl, Nat.le_refl _, rfl, Below.refl _ _⟩
  case round =>
    obtain ⟨m, rfl, hm, hp, hb⟩ := hrel
    have hm' : m.length ≤ 9223372036854775807 := by omega
    have hk : (Lx.hd Lx.blank m).length ≤ m.length := hd_le _ _
    have hx := drop_hd Lx.blank m
    have hpe := Lib.hid (Lx.pass_eq m)
    have hdl := Lx.dropWhile_len (Lx.bp Lx.blank) m
    generalize m.dropWhile (Lx.bp Lx.blank) = n at *
    by_cases h2 : 2 ≤ n.length
    · by_cases h3 : n.take 2 = [45, 45]
      · have h4 : (n.take 2 == [45, 45]) = true := by rw [beq_iff_eq]; exact h3
        have hlt := Lib.hid (Lx.other_drop h3)
        have H3 := Lib.hid h3
        clear h3
        have hk2 : (Lx.hd Lx.other n).length ≤ n.length := hd_le _ _
        have hx2 := drop_hd Lx.other n
        generalize n.dropWhile (Lx.bp Lx.other) = o at *
        go_wp2_with fail
        refine (head_blank m (by unfold maxLen; omega) _).mono ?_
        rintro e w1 ⟨rfl, hb1⟩
        go_wp2_with fail
        refine (head_other n (by unfold maxLen; omega) _).mono ?_
        rintro e w2 ⟨rfl, hb2⟩
        go_wp2_with fail
        go_roundw
        case rel =>
          have hb12 : Below w.heap.size w w2 := (hb.trans (hb1.mono hb.size)).trans (hb2.mono (Nat.le_trans hb.size hb1.size))
          refine ⟨o, rfl, by have := hlt.out; omega, ?_, hb12⟩
          have h5 := hpe.out
          rw [if_pos H3.out] at h5
          exact h5.symm.trans hp.out
        case measure =>
          have := hlt.out
          simp [strLen, ByteArray.size]
          omega
      · have h4 : (n.take 2 == [45, 45]) = false := by rw [beq_eq_false_iff_ne]; exact h3
        have H3 := Lib.hid h3
        clear h3
        go_wp2_with fail
        refine (head_blank m (by unfold maxLen; omega) _).mono ?_
        rintro e w1 ⟨rfl, hb1⟩
        go_wp2_with fail
        go_ret
        refine ⟨?_, hb.trans (hb1.mono hb.size)⟩
        have h5 := hpe.out
        rw [if_neg H3.out] at h5
        rw [← hp.out, h5]
        rfl
    · go_wp2_with fail
      refine (head_blank m (by unfold maxLen; omega) _).mono ?_
      rintro e w1 ⟨rfl, hb1⟩
      go_wp2_with fail
      go_ret
      refine ⟨?_, hb.trans (hb1.mono hb.size)⟩
      have h5 := hpe.out
      have h6 : n.take 2 ≠ [45, 45] := fun e => by
        have := congrArg List.length e
        rw [List.length_take] at this
        simp at this
        omega
      rw [if_neg h6] at h5
      rw [← hp.out, h5]
      rfl
end Go.Proofs.Ytilkilffkjhhbaa
namespace Go.Proofs.Ytilkilffkjhhbaa
set_option maxRecDepth 20000
set_option linter.unusedVariables false
open Go.RowKit
attribute [local go_sem] ex_take ex_drop ba_get

def AllDigits (l : List UInt8) : Prop := ∀ c ∈ l, Lx.bp Lx.digit c = true
theorem digit_bd {c : UInt8} (h : Lx.bp Lx.digit c = true) : 48 ≤ (c.toNat : Int) ∧ (c.toNat : Int) ≤ 57 := by
  unfold Lx.bp Lx.digit at h
  simpa using h
theorem numVal_snoc (l : List UInt8) (k : Nat) (h : k < l.length) : Lx.numVal (l.take (k + 1)) = 10 * Lx.numVal (l.take k) + (((l[k]'h).toNat : Int) - 48) := by
  unfold Lx.numVal
  rw [List.take_succ_eq_append_getElem h, List.foldl_append]
  rfl
theorem numVal_bd (l : List UInt8) (hd : AllDigits l) : ∀ k, k ≤ l.length → k ≤ 11 → 0 ≤ Lx.numVal (l.take k) ∧ Lx.numVal (l.take k) + 1 ≤ 10 ^ k
  | 0, _, _ => by simp [Lx.numVal]
  | k + 1, h, h11 => by
    have ih := numVal_bd l hd k (by omega) (by omega)
    have hc := digit_bd (hd (l[k]'(by omega)) (List.getElem_mem _))
    rw [numVal_snoc l k (by omega), Int.pow_succ]
    omega
theorem pow_le (k : Nat) (h : k ≤ 11) : (10 : Int) ^ k ≤ 100000000000 := by
  have : ∀ j, j ≤ 11 → (10 : Int) ^ j ≤ 100000000000 := by decide
  exact this k h
theorem numVal_big (l : List UInt8) (hd : AllDigits l) (k : Nat) (h : k ≤ l.length) (h11 : l.length ≤ 11) : 0 ≤ Lx.numVal (l.take k) ∧ Lx.numVal (l.take k) ≤ 99999999999 := by
  have h1 := numVal_bd l hd k h (by omega)
  have h2 := pow_le k (by omega)
  omega
theorem headD_at {l : List UInt8} (h : 0 < l.length) : l.headD 0 = l[0]'h := by cases l with | nil => simp at h | cons c r => rfl
theorem wrap32_of {n : Int} (h : 0 ≤ n) (h2 : n ≤ 99999999999) (h3 : 2147483647 < n) : (wrap64 (wrap32 n) != n) = true := by
  rw [bne_iff_ne]; unfold wrap64 wrap32; omega
set_option maxHeartbeats 2000000 in
theorem wrapread (l : List UInt8) (h0 : l ≠ []) (hd : AllDigits l) (hl : l.length ≤ maxLen) (w : World) :
    Calls Try.prog 92 #[.string ⟨l.toArray⟩] w fun e w' => e = .returned (.tuple #[.int .i32 (if Lx.readOk l then Lx.numVal l else 0), .bool (Lx.readOk l)]) ∧ w = w' := by
  unfold maxLen at hl
  have hp : 0 < l.length := List.length_pos_iff.2 h0
  have hc := digit_bd (hd (l[0]'hp) (List.getElem_mem _))
  have h45 : (((l[0]'hp).toNat : Int) == 45) = false := by simp; omega
  have he : (l == []) = false := by rw [beq_eq_false_iff_ne]; exact h0
  have hne : (l != []) = true := by rw [bne_iff_ne]; exact h0
  clear h0
  by_cases h11 : 11 < l.length
  · have hok : Lx.readOk l = false := by unfold Lx.readOk; simp; omega
    rw [hok]
    go_enter Try.func92, Try.ntmps92
    go_wp2
    go_ret2
    exact ⟨rfl, rfl⟩
  · by_cases hz : (l[0]'hp).toNat = 48 ∧ l ≠ [48]
    · have hok : Lx.readOk l = false := by
        unfold Lx.readOk
        have e1 : l.headD 0 = 48 := by rw [headD_at hp]; exact UInt8.toNat_inj.1 hz.1
        have e2 : (l != [48]) = true := by rw [bne_iff_ne]; exact hz.2
        rw [e1, e2]; simp
      rw [hok]
      have hz1 : (((l[0]'hp).toNat : Int) == 48) = true := by simp; omega
      have hz2 : (l == [48]) = false := by rw [beq_eq_false_iff_ne]; exact hz.2
      clear hz
      go_enter Try.func92, Try.ntmps92
      go_wp2
      go_ret2
      exact ⟨rfl, rfl⟩
    · have hz' : (((l[0]'hp).toNat : Int) == 48) = false ∨ ((((l[0]'hp).toNat : Int) == 48) = true ∧ (l == [48]) = true) := by
        by_cases e1 : (l[0]'hp).toNat = 48
        · by_cases e2 : l = [48]
          · right; exact ⟨by simp; omega, by rw [beq_iff_eq]; exact e2⟩
          · exact absurd ⟨e1, e2⟩ hz
        · left; simp; omega
      have hok : Lx.readOk l = decide (Lx.numVal l ≤ 2147483647) := by
        unfold Lx.readOk
        have e0 : decide (l.length ≤ 11) = true := by simp; omega
        have e1 : (!(l.headD 0 == 48 && l != [48])) = true := by
          rw [headD_at hp]
          rcases hq : ((l[0]'hp) == 48) with _ | _
          · rfl
          · rw [beq_iff_eq] at hq
            have : l = [48] := by
              by_cases e2 : l = [48]
              · exact e2
              · exact absurd ⟨by rw [hq]; rfl, e2⟩ hz
            rw [this]; rfl
        rw [e0, e1]; simp
      clear hz
      have hall := numVal_big l hd l.length (Nat.le_refl _) (by omega)
      rw [List.take_length] at hall
      have HD := Lib.hid hd
      clear hd
      by_cases hm : Lx.numVal l ≤ 2147483647
      · have hok2 : Lx.readOk l = true := by rw [hok]; simpa using hm
        rw [hok2, if_pos rfl]
        clear hok hok2
        rcases hz' with g1 | ⟨g1, g2⟩
        all_goals
          go_enter Try.func92, Try.ntmps92
          go_wp2
          go_loop [6, 37] (fun n i => ∃ k : Nat, k ≤ l.length ∧ i = .int .i64 k ∧ n = .int .i64 (Lx.numVal (l.take k))) (fun _ i => l.length - (intOf i).toNat)
          case atStart => exact ⟨0, Nat.zero_le _, rfl, rfl⟩
          case round =>
            obtain ⟨k, hk, rfl, rfl⟩ := hrel
            have hb := numVal_big l HD.out k hk (by omega)
            by_cases hlt : k < l.length
            · have hck := digit_bd (HD.out (l[k]'hlt) (List.getElem_mem _))
              have HS := Lib.hid (numVal_snoc l k hlt)
              go_wp2
              go_round
              case rel => exact ⟨k + 1, by omega, by go_num, by rw [HS.out]⟩
              case measure => simp [intOf]; omega
            · obtain rfl : k = l.length := by omega
              rw [List.take_length] at hb ⊢
              go_wp2
              go_ret2
              exact ⟨rfl, rfl⟩
      · have hok2 : Lx.readOk l = false := by rw [hok]; simpa using hm
        rw [hok2]
        have hw := wrap32_of hall.1 hall.2 (by omega)
        clear hok hok2
        rcases hz' with g1 | ⟨g1, g2⟩
        all_goals
          go_enter Try.func92, Try.ntmps92
          go_wp2
          go_loop [6, 37] (fun n i => ∃ k : Nat, k ≤ l.length ∧ i = .int .i64 k ∧ n = .int .i64 (Lx.numVal (l.take k))) (fun _ i => l.length - (intOf i).toNat)
          case atStart => exact ⟨0, Nat.zero_le _, rfl, rfl⟩
          case round =>
            obtain ⟨k, hk, rfl, rfl⟩ := hrel
            have hb := numVal_big l HD.out k hk (by omega)
            by_cases hlt : k < l.length
            · have hck := digit_bd (HD.out (l[k]'hlt) (List.getElem_mem _))
              have HS := Lib.hid (numVal_snoc l k hlt)
              go_wp2
              go_round
              case rel => exact ⟨k + 1, by omega, by go_num, by rw [HS.out]⟩
              case measure => simp [intOf]; omega
            · obtain rfl : k = l.length := by omega
              rw [List.take_length] at hb ⊢
              go_wp2
              go_ret2
              exact ⟨rfl, rfl⟩
end Go.Proofs.Ytilkilffkjhhbaa
namespace Go.Proofs.Ytilkilffkjhhbaa
set_option maxRecDepth 20000
set_option linter.unusedVariables false
open Go.RowKit
attribute [local go_sem] ex_take ex_drop ba_get

theorem below_new {w w1 : World} {cs : Array Value} {t : TypeId} (hb : Below (w.alloc (.cells cs t)).heap.size (w.alloc (.cells cs t)) w1) (j : Nat) :
    w1.cell? ⟨w.heap.size, j, none⟩ = cs[j]? ∧ w1.frozen? ⟨w.heap.size, j, none⟩ = false := by
  have h : w1.heap[w.heap.size]? = some (.cells cs t (0, 0)) := (hb.block w.heap.size (by simp)).trans (heap_alloc_new w _)
  exact ⟨cell_of_row w1 w.heap.size j cs t (0, 0) h, by simp [World.frozen?, h]⟩
theorem below4 {w w1 : World} {a b c d : Value} {t : TypeId} (hb : Below (w.alloc (.cells #[a, b, c, d] t)).heap.size (w.alloc (.cells #[a, b, c, d] t)) w1) :
    w1.cell? ⟨w.heap.size, 0, none⟩ = some a ∧ w1.cell? ⟨w.heap.size, 1, none⟩ = some b ∧ w1.cell? ⟨w.heap.size, 2, none⟩ = some c ∧ w1.cell? ⟨w.heap.size, 3, none⟩ = some d ∧
    w1.frozen? ⟨w.heap.size, 0, none⟩ = false ∧ w1.frozen? ⟨w.heap.size, 1, none⟩ = false ∧ w1.frozen? ⟨w.heap.size, 2, none⟩ = false ∧ w1.frozen? ⟨w.heap.size, 3, none⟩ = false ∧ w.heap.size < w1.heap.size ∧ Below w.heap.size w w1 := by
  refine ⟨(below_new hb 0).1, (below_new hb 1).1, (below_new hb 2).1, (below_new hb 3).1, (below_new hb 0).2, (below_new hb 1).2, (below_new hb 2).2, (below_new hb 3).2, ?_, ?_⟩
  · have := hb.size; simp at this; omega
  · exact ((Below.refl _ _).alloc (Nat.le_refl _) _).trans (hb.mono (by simp))
theorem set4 {W : World} {g : Nat} {a b c d : Value} (x0 x1 x2 x3 : Value) (k0 : W.cell? ⟨g, 0, none⟩ = some a) (k1 : W.cell? ⟨g, 1, none⟩ = some b) (k2 : W.cell? ⟨g, 2, none⟩ = some c) (k3 : W.cell? ⟨g, 3, none⟩ = some d) :
    ((((W.setCell ⟨g, 0, none⟩ x0).setCell ⟨g, 1, none⟩ x1).setCell ⟨g, 2, none⟩ x2).setCell ⟨g, 3, none⟩ x3).cell? ⟨g, 0, none⟩ = some x0 ∧
    ((((W.setCell ⟨g, 0, none⟩ x0).setCell ⟨g, 1, none⟩ x1).setCell ⟨g, 2, none⟩ x2).setCell ⟨g, 3, none⟩ x3).cell? ⟨g, 1, none⟩ = some x1 ∧
    ((((W.setCell ⟨g, 0, none⟩ x0).setCell ⟨g, 1, none⟩ x1).setCell ⟨g, 2, none⟩ x2).setCell ⟨g, 3, none⟩ x3).cell? ⟨g, 2, none⟩ = some x2 ∧
    ((((W.setCell ⟨g, 0, none⟩ x0).setCell ⟨g, 1, none⟩ x1).setCell ⟨g, 2, none⟩ x2).setCell ⟨g, 3, none⟩ x3).cell? ⟨g, 3, none⟩ = some x3 := by
  refine ⟨?_, ?_, ?_, ?_⟩ <;> simp [go_sem, k0, k1, k2, k3]
theorem ret_tok {fn : Func} {R : Ending → World → Prop} {a : Act} {W : World} {g : Nat} {v0 v1 v2 v3 x : Value} (hr : fn.results = #[.cell 2 40, .tmp 3])
    (h2 : a.tmps.getD 2 undef = .pointer (some ⟨g, 0, none⟩)) (h3 : a.tmps.getD 3 undef = x) (hd : a.defers = [])
    (c0 : W.cell? ⟨g, 0, none⟩ = some v0) (c1 : W.cell? ⟨g, 1, none⟩ = some v1) (c2 : W.cell? ⟨g, 2, none⟩ = some v2) (c3 : W.cell? ⟨g, 3, none⟩ = some v3)
    (hR : R (.returned (.tuple #[.agg #[v0, v1, v2, v3], x])) W) : bodyPost Try.prog fn R .ret a W := by
  refine bodyPost_ret ?_ hd hR
  have h2' : a.tmps[2]?.getD undef = .pointer (some ⟨g, 0, none⟩) := by simpa using h2
  have h3' : a.tmps[3]?.getD undef = x := by simpa using h3
  simp [results, hr, h2', h3', go_sem, c0, c1, c2, c3]
def tokAgg (t : Lx.Tok) : Value := .agg #[.int .i64 t.kind, .string ⟨t.text.toArray⟩, .int .i32 t.n, .int .i64 t.at_]
set_option maxHeartbeats 2000000 in
theorem next_word (l : List UInt8) (h0 : 0 < l.length) (h1 : Lx.bp Lx.letter (l[0]'h0) = true) (hw : Lx.isWord (Lx.hd Lx.inner l) = true) (hl : l.length ≤ maxLen) (w : World) :
    Calls Try.prog 55 #[.string ⟨l.toArray⟩] w fun e w' => e = .returned (.tuple #[tokAgg ⟨3, Lx.hd Lx.inner l, 0, 0⟩, .int .i64 0]) ∧ Below w.heap.size w w' := by
  unfold tokAgg
  have hL := Lib.hid hl
  unfold maxLen at hl
  have H1 : Hid (Lx.letter ((l[0]'h0).toNat : Int) = true) := h1
  clear h1
  have hcb : ((l[0]'h0).toNat : Int) ≤ 255 := by have := (l[0]'h0).toNat_lt; omega
  have HW := Lib.hid hw
  clear hw
  go_enter Try.func55, Try.ntmps55
  go_wp2_with fail
  refine (lexletter_any _ _).mono ?_
  rintro e w' ⟨rfl, rfl⟩
  rw [H1.out]
  go_wp2_with fail
  refine (head_inner l hL.out _).mono ?_
  rintro e w1 ⟨rfl, hb1⟩
  obtain ⟨k0, k1, k2, k3, f0, f1, f2, f3, hz, hb⟩ := below4 hb1
  have HB := Lib.hid hb
  clear hb1 hb
  go_wp2_with fail
  refine (lexword _ _).mono ?_
  rintro e w' ⟨rfl, rfl⟩
  rw [HW.out]
  go_wp2_with fail
  obtain ⟨e0, e1, e2, e3⟩ := set4 (.int .i64 3) (.string ⟨(Lx.hd Lx.inner l).toArray⟩) (.int .i32 0) (.int .i64 0) k0 k1 k2 k3
  refine ret_tok rfl rfl rfl rfl ((World.cell?_alloc_lt _ _ _ ?_).trans e0) ((World.cell?_alloc_lt _ _ _ ?_).trans e1) ((World.cell?_alloc_lt _ _ _ ?_).trans e2) ((World.cell?_alloc_lt _ _ _ ?_).trans e3) ⟨rfl, ?_⟩
  all_goals first | (simp [World.setCell]; omega) | skip
  exact (((((HB.out.setCell (Nat.le_refl _) _).setCell (Nat.le_refl _) _).setCell (Nat.le_refl _) _).setCell (Nat.le_refl _) _).alloc (by simp; omega) _)
set_option maxHeartbeats 2000000 in
theorem next_big (l : List UInt8) (h0 : 0 < l.length) (h1 : Lx.bp Lx.letter (l[0]'h0) = true) (hw : Lx.isWord (Lx.hd Lx.inner l) = false) (hg : 16 < (Lx.hd Lx.inner l).length) (hl : l.length ≤ maxLen) (w : World) :
    Calls Try.prog 55 #[.string ⟨l.toArray⟩] w fun e w' => e = .returned (.tuple #[tokAgg ⟨1, Lx.hd Lx.inner l, 0, 0⟩, .int .i64 3]) ∧ Below w.heap.size w w' := by
  unfold tokAgg
  have hL := Lib.hid hl
  unfold maxLen at hl
  have H1 : Hid (Lx.letter ((l[0]'h0).toNat : Int) = true) := h1
  clear h1
  have hcb : ((l[0]'h0).toNat : Int) ≤ 255 := by have := (l[0]'h0).toNat_lt; omega
  have HW := Lib.hid hw
  clear hw
  have hhl : (Lx.hd Lx.inner l).length ≤ l.length := hd_le _ _
  go_enter Try.func55, Try.ntmps55
  go_wp2_with fail
  refine (lexletter_any _ _).mono ?_
  rintro e w' ⟨rfl, rfl⟩
  rw [H1.out]
  go_wp2_with fail
  refine (head_inner l hL.out _).mono ?_
  rintro e w1 ⟨rfl, hb1⟩
  obtain ⟨k0, k1, k2, k3, f0, f1, f2, f3, hz, hb⟩ := below4 hb1
  have HB := Lib.hid hb
  clear hb1 hb
  go_wp2_with fail
  refine (lexword _ _).mono ?_
  rintro e w' ⟨rfl, rfl⟩
  rw [HW.out]
  go_wp2_with fail
  obtain ⟨e0, e1, e2, e3⟩ := set4 (.int .i64 1) (.string ⟨(Lx.hd Lx.inner l).toArray⟩) (.int .i32 0) (.int .i64 0) k0 k1 k2 k3
  refine ret_tok rfl rfl rfl rfl ((World.cell?_alloc_lt _ _ _ ?_).trans e0) ((World.cell?_alloc_lt _ _ _ ?_).trans e1) ((World.cell?_alloc_lt _ _ _ ?_).trans e2) ((World.cell?_alloc_lt _ _ _ ?_).trans e3) ⟨rfl, ?_⟩
  all_goals first | (simp [World.setCell]; omega) | skip
  exact (((((HB.out.setCell (Nat.le_refl _) _).setCell (Nat.le_refl _) _).setCell (Nat.le_refl _) _).setCell (Nat.le_refl _) _).alloc (by simp; omega) _)
set_option maxHeartbeats 2000000 in
theorem next_name (l : List UInt8) (h0 : 0 < l.length) (h1 : Lx.bp Lx.letter (l[0]'h0) = true) (hw : Lx.isWord (Lx.hd Lx.inner l) = false) (hg : ¬ 16 < (Lx.hd Lx.inner l).length) (hl : l.length ≤ maxLen) (w : World) :
    Calls Try.prog 55 #[.string ⟨l.toArray⟩] w fun e w' => e = .returned (.tuple #[tokAgg ⟨1, Lx.hd Lx.inner l, 0, 0⟩, .int .i64 0]) ∧ Below w.heap.size w w' := by
  unfold tokAgg
  have hL := Lib.hid hl
  unfold maxLen at hl
  have H1 : Hid (Lx.letter ((l[0]'h0).toNat : Int) = true) := h1
  clear h1
  have hcb : ((l[0]'h0).toNat : Int) ≤ 255 := by have := (l[0]'h0).toNat_lt; omega
  have HW := Lib.hid hw
  clear hw
  have hhl : (Lx.hd Lx.inner l).length ≤ l.length := hd_le _ _
  go_enter Try.func55, Try.ntmps55
  go_wp2_with fail
  refine (lexletter_any _ _).mono ?_
  rintro e w' ⟨rfl, rfl⟩
  rw [H1.out]
  go_wp2_with fail
  refine (head_inner l hL.out _).mono ?_
  rintro e w1 ⟨rfl, hb1⟩
  obtain ⟨k0, k1, k2, k3, f0, f1, f2, f3, hz, hb⟩ := below4 hb1
  have HB := Lib.hid hb
  clear hb1 hb
  go_wp2_with fail
  refine (lexword _ _).mono ?_
  rintro e w' ⟨rfl, rfl⟩
  rw [HW.out]
  go_wp2_with fail
  obtain ⟨e0, e1, e2, e3⟩ := set4 (.int .i64 1) (.string ⟨(Lx.hd Lx.inner l).toArray⟩) (.int .i32 0) (.int .i64 0) k0 k1 k2 k3
  refine ret_tok rfl rfl rfl rfl ((World.cell?_alloc_lt _ _ _ ?_).trans e0) ((World.cell?_alloc_lt _ _ _ ?_).trans e1) ((World.cell?_alloc_lt _ _ _ ?_).trans e2) ((World.cell?_alloc_lt _ _ _ ?_).trans e3) ⟨rfl, ?_⟩
  all_goals first | (simp [World.setCell]; omega) | skip
  exact (((((HB.out.setCell (Nat.le_refl _) _).setCell (Nat.le_refl _) _).setCell (Nat.le_refl _) _).setCell (Nat.le_refl _) _).alloc (by simp; omega) _)
set_option maxHeartbeats 2000000 in
theorem next_num (l : List UInt8) (h0 : 0 < l.length) (h1 : Lx.bp Lx.letter (l[0]'h0) = false) (h2 : Lx.bp Lx.digit (l[0]'h0) = true) (hr : Lx.readOk (Lx.hd Lx.digit l) = true) (hl : l.length ≤ maxLen) (w : World) :
    Calls Try.prog 55 #[.string ⟨l.toArray⟩] w fun e w' => e = .returned (.tuple #[tokAgg ⟨2, Lx.hd Lx.digit l, Lx.numVal (Lx.hd Lx.digit l), 0⟩, .int .i64 0]) ∧ Below w.heap.size w w' := by
  unfold tokAgg
  have hL := Lib.hid hl
  unfold maxLen at hl
  have H1 : Hid (Lx.letter ((l[0]'h0).toNat : Int) = false) := h1
  clear h1
  have hcb : ((l[0]'h0).toNat : Int) ≤ 255 := by have := (l[0]'h0).toNat_lt; omega
  have H2 : Hid (Lx.digit ((l[0]'h0).toNat : Int) = true) := h2
  clear h2
  have hne : Lx.hd Lx.digit l ≠ [] := List.length_pos_iff.1 (Lx.hd_pos (List.length_pos_iff.1 h0) (by rw [headD_at h0]; exact H2.out))
  have had : AllDigits (Lx.hd Lx.digit l) := Lx.mem_tw _ l
  have hdl : (Lx.hd Lx.digit l).length ≤ maxLen := by have := hd_le Lx.digit l; have := hL.out; omega
  have HR := Lib.hid hr
  have HN := Lib.hid (And.intro hne (And.intro had hdl))
  clear hr hne had hdl
  go_enter Try.func55, Try.ntmps55
  go_wp2_with fail
  refine (lexletter_any _ _).mono ?_
  rintro e w' ⟨rfl, rfl⟩
  rw [H1.out]
  go_wp2_with fail
  refine (lexdigit_any _ _).mono ?_
  rintro e w' ⟨rfl, rfl⟩
  rw [H2.out]
  go_wp2_with fail
  refine (head_digit l hL.out _).mono ?_
  rintro e w1 ⟨rfl, hb1⟩
  obtain ⟨k0, k1, k2, k3, f0, f1, f2, f3, hz, hb⟩ := below4 hb1
  have HB := Lib.hid hb
  clear hb1 hb
  go_wp2_with fail
  refine (wrapread _ HN.out.1 HN.out.2.1 HN.out.2.2 _).mono ?_
  rintro e w' ⟨rfl, rfl⟩
  rw [HR.out]
  go_wp2_with fail
  obtain ⟨e0, e1, e2, e3⟩ := set4 (.int .i64 2) (.string ⟨(Lx.hd Lx.digit l).toArray⟩) (.int .i32 (Lx.numVal (Lx.hd Lx.digit l))) (.int .i64 0) k0 k1 k2 k3
  refine ret_tok rfl rfl rfl rfl ((World.cell?_alloc_lt _ _ _ ?_).trans e0) ((World.cell?_alloc_lt _ _ _ ?_).trans e1) ((World.cell?_alloc_lt _ _ _ ?_).trans e2) ((World.cell?_alloc_lt _ _ _ ?_).trans e3) ⟨rfl, ?_⟩
  all_goals first | (simp [World.setCell]; omega) | skip
  exact (((((HB.out.setCell (Nat.le_refl _) _).setCell (Nat.le_refl _) _).setCell (Nat.le_refl _) _).setCell (Nat.le_refl _) _).alloc (by simp; omega) _)
set_option maxHeartbeats 2000000 in
theorem next_bad (l : List UInt8) (h0 : 0 < l.length) (h1 : Lx.bp Lx.letter (l[0]'h0) = false) (h2 : Lx.bp Lx.digit (l[0]'h0) = true) (hr : Lx.readOk (Lx.hd Lx.digit l) = false) (hl : l.length ≤ maxLen) (w : World) :
    Calls Try.prog 55 #[.string ⟨l.toArray⟩] w fun e w' => e = .returned (.tuple #[tokAgg ⟨2, Lx.hd Lx.digit l, 0, 0⟩, .int .i64 16]) ∧ Below w.heap.size w w' := by
  unfold tokAgg
  have hL := Lib.hid hl
  unfold maxLen at hl
  have H1 : Hid (Lx.letter ((l[0]'h0).toNat : Int) = false) := h1
  clear h1
  have hcb : ((l[0]'h0).toNat : Int) ≤ 255 := by have := (l[0]'h0).toNat_lt; omega
  have H2 : Hid (Lx.digit ((l[0]'h0).toNat : Int) = true) := h2
  clear h2
  have hne : Lx.hd Lx.digit l ≠ [] := List.length_pos_iff.1 (Lx.hd_pos (List.length_pos_iff.1 h0) (by rw [headD_at h0]; exact H2.out))
  have had : AllDigits (Lx.hd Lx.digit l) := Lx.mem_tw _ l
  have hdl : (Lx.hd Lx.digit l).length ≤ maxLen := by have := hd_le Lx.digit l; have := hL.out; omega
  have HR := Lib.hid hr
  have HN := Lib.hid (And.intro hne (And.intro had hdl))
  clear hr hne had hdl
  go_enter Try.func55, Try.ntmps55
  go_wp2_with fail
  refine (lexletter_any _ _).mono ?_
  rintro e w' ⟨rfl, rfl⟩
  rw [H1.out]
  go_wp2_with fail
  refine (lexdigit_any _ _).mono ?_
  rintro e w' ⟨rfl, rfl⟩
  rw [H2.out]
  go_wp2_with fail
  refine (head_digit l hL.out _).mono ?_
  rintro e w1 ⟨rfl, hb1⟩
  obtain ⟨k0, k1, k2, k3, f0, f1, f2, f3, hz, hb⟩ := below4 hb1
  have HB := Lib.hid hb
  clear hb1 hb
  go_wp2_with fail
  refine (wrapread _ HN.out.1 HN.out.2.1 HN.out.2.2 _).mono ?_
  rintro e w' ⟨rfl, rfl⟩
  rw [HR.out]
  go_wp2_with fail
  obtain ⟨e0, e1, e2, e3⟩ := set4 (.int .i64 2) (.string ⟨(Lx.hd Lx.digit l).toArray⟩) (.int .i32 0) (.int .i64 0) k0 k1 k2 k3
  refine ret_tok rfl rfl rfl rfl ((World.cell?_alloc_lt _ _ _ ?_).trans e0) ((World.cell?_alloc_lt _ _ _ ?_).trans e1) ((World.cell?_alloc_lt _ _ _ ?_).trans e2) ((World.cell?_alloc_lt _ _ _ ?_).trans e3) ⟨rfl, ?_⟩
  all_goals first | (simp [World.setCell]; omega) | skip
  exact (((((HB.out.setCell (Nat.le_refl _) _).setCell (Nat.le_refl _) _).setCell (Nat.le_refl _) _).setCell (Nat.le_refl _) _).alloc (by simp; omega) _)
end Go.Proofs.Ytilkilffkjhhbaa
namespace Go.Proofs.Ytilkilffkjhhbaa
set_option maxRecDepth 20000
set_option linter.unusedVariables false
open Go.RowKit
attribute [local go_sem] ex_take ex_drop ba_get

set_option maxHeartbeats 2000000 in
theorem next_mark2 (l : List UInt8) (h0 : 0 < l.length) (h1 : Lx.bp Lx.letter (l[0]'h0) = false) (h2 : Lx.bp Lx.digit (l[0]'h0) = false) (hg : 2 ≤ l.length) (hm : Lx.isMark (l.take 2) = true) (hl : l.length ≤ maxLen) (w : World) :
    Calls Try.prog 55 #[.string ⟨l.toArray⟩] w fun e w' => e = .returned (.tuple #[tokAgg ⟨4, l.take 2, 0, 0⟩, .int .i64 0]) ∧ Below w.heap.size w w' := by
  unfold tokAgg
  unfold maxLen at hl
  have H1 : Hid (Lx.letter ((l[0]'h0).toNat : Int) = false) := h1
  have H2 : Hid (Lx.digit ((l[0]'h0).toNat : Int) = false) := h2
  clear h1 h2
  have hcb : ((l[0]'h0).toNat : Int) ≤ 255 := by have := (l[0]'h0).toNat_lt; omega
  have HM := Lib.hid hm
  clear hm
  go_enter Try.func55, Try.ntmps55
  go_wp2_with fail
  refine (lexletter_any _ _).mono ?_
  rintro e w' ⟨rfl, rfl⟩
  rw [H1.out]
  go_wp2_with fail
  refine (lexdigit_any _ _).mono ?_
  rintro e w' ⟨rfl, rfl⟩
  rw [H2.out]
  go_wp2_with fail
  refine wp_loop_rounds 3 ?_
  rw [rounds_succ]
  go_wp2_with fail
  refine (lexmark _ _).mono ?_
  rintro e w' ⟨rfl, rfl⟩
  rw [HM.out]
  go_wp2_with fail
  refine ret_tok rfl rfl rfl rfl ?_ ?_ ?_ ?_ ⟨rfl, ?_⟩
  · simp [go_sem]
  · simp [go_sem]
  · simp [go_sem]
  · simp [go_sem]
  · exact (((Below.refl _ _).alloc (Nat.le_refl _) _).alloc (by simp) _)
set_option maxHeartbeats 2000000 in
theorem next_mark1 (l : List UInt8) (h0 : 0 < l.length) (h1 : Lx.bp Lx.letter (l[0]'h0) = false) (h2 : Lx.bp Lx.digit (l[0]'h0) = false) (hg : 2 ≤ l.length) (hm : Lx.isMark (l.take 2) = false) (hn : Lx.isMark (l.take 1) = true) (hl : l.length ≤ maxLen) (w : World) :
    Calls Try.prog 55 #[.string ⟨l.toArray⟩] w fun e w' => e = .returned (.tuple #[tokAgg ⟨4, l.take 1, 0, 0⟩, .int .i64 0]) ∧ Below w.heap.size w w' := by
  unfold tokAgg
  unfold maxLen at hl
  have H1 : Hid (Lx.letter ((l[0]'h0).toNat : Int) = false) := h1
  have H2 : Hid (Lx.digit ((l[0]'h0).toNat : Int) = false) := h2
  clear h1 h2
  have hcb : ((l[0]'h0).toNat : Int) ≤ 255 := by have := (l[0]'h0).toNat_lt; omega
  have HM := Lib.hid hm
  clear hm
  have HN := Lib.hid hn
  clear hn
  go_enter Try.func55, Try.ntmps55
  go_wp2_with fail
  refine (lexletter_any _ _).mono ?_
  rintro e w' ⟨rfl, rfl⟩
  rw [H1.out]
  go_wp2_with fail
  refine (lexdigit_any _ _).mono ?_
  rintro e w' ⟨rfl, rfl⟩
  rw [H2.out]
  go_wp2_with fail
  refine wp_loop_rounds 3 ?_
  rw [rounds_succ]
  go_wp2_with fail
  refine (lexmark _ _).mono ?_
  rintro e w' ⟨rfl, rfl⟩
  rw [HM.out]
  go_wp2_with fail
  rw [rounds_succ]
  go_wp2_with fail
  refine (lexmark _ _).mono ?_
  rintro e w' ⟨rfl, rfl⟩
  rw [HN.out]
  go_wp2_with fail
  refine ret_tok rfl rfl rfl rfl ?_ ?_ ?_ ?_ ⟨rfl, ?_⟩
  · simp [go_sem]
  · simp [go_sem]
  · simp [go_sem]
  · simp [go_sem]
  · exact (((Below.refl _ _).alloc (Nat.le_refl _) _).alloc (by simp) _)
set_option maxHeartbeats 2000000 in
theorem next_none (l : List UInt8) (h0 : 0 < l.length) (h1 : Lx.bp Lx.letter (l[0]'h0) = false) (h2 : Lx.bp Lx.digit (l[0]'h0) = false) (hg : 2 ≤ l.length) (hm : Lx.isMark (l.take 2) = false) (hn : Lx.isMark (l.take 1) = false) (hl : l.length ≤ maxLen) (w : World) :
    Calls Try.prog 55 #[.string ⟨l.toArray⟩] w fun e w' => e = .returned (.tuple #[tokAgg ⟨0, [], 0, 0⟩, .int .i64 15]) ∧ Below w.heap.size w w' := by
  unfold tokAgg
  unfold maxLen at hl
  have H1 : Hid (Lx.letter ((l[0]'h0).toNat : Int) = false) := h1
  have H2 : Hid (Lx.digit ((l[0]'h0).toNat : Int) = false) := h2
  clear h1 h2
  have hcb : ((l[0]'h0).toNat : Int) ≤ 255 := by have := (l[0]'h0).toNat_lt; omega
  have HM := Lib.hid hm
  clear hm
  have HN := Lib.hid hn
  clear hn
  go_enter Try.func55, Try.ntmps55
  go_wp2_with fail
  refine (lexletter_any _ _).mono ?_
  rintro e w' ⟨rfl, rfl⟩
  rw [H1.out]
  go_wp2_with fail
  refine (lexdigit_any _ _).mono ?_
  rintro e w' ⟨rfl, rfl⟩
  rw [H2.out]
  go_wp2_with fail
  refine wp_loop_rounds 3 ?_
  rw [rounds_succ]
  go_wp2_with fail
  refine (lexmark _ _).mono ?_
  rintro e w' ⟨rfl, rfl⟩
  rw [HM.out]
  go_wp2_with fail
  rw [rounds_succ]
  go_wp2_with fail
  refine (lexmark _ _).mono ?_
  rintro e w' ⟨rfl, rfl⟩
  rw [HN.out]
  go_wp2_with fail
  rw [rounds_succ]
  go_wp2_with fail
  refine ret_tok rfl rfl rfl rfl ?_ ?_ ?_ ?_ ⟨rfl, ?_⟩
  · simp [go_sem]
  · simp [go_sem]
  · simp [go_sem]
  · simp [go_sem]
  · exact (((Below.refl _ _).alloc (Nat.le_refl _) _).alloc (by simp) _)
set_option maxHeartbeats 2000000 in
theorem next_mark1s (l : List UInt8) (h0 : 0 < l.length) (h1 : Lx.bp Lx.letter (l[0]'h0) = false) (h2 : Lx.bp Lx.digit (l[0]'h0) = false) (hg : ¬ 2 ≤ l.length) (hn : Lx.isMark (l.take 1) = true) (hl : l.length ≤ maxLen) (w : World) :
    Calls Try.prog 55 #[.string ⟨l.toArray⟩] w fun e w' => e = .returned (.tuple #[tokAgg ⟨4, l.take 1, 0, 0⟩, .int .i64 0]) ∧ Below w.heap.size w w' := by
  unfold tokAgg
  unfold maxLen at hl
  have H1 : Hid (Lx.letter ((l[0]'h0).toNat : Int) = false) := h1
  have H2 : Hid (Lx.digit ((l[0]'h0).toNat : Int) = false) := h2
  clear h1 h2
  have hcb : ((l[0]'h0).toNat : Int) ≤ 255 := by have := (l[0]'h0).toNat_lt; omega
  have HN := Lib.hid hn
  clear hn
  go_enter Try.func55, Try.ntmps55
  go_wp2_with fail
  refine (lexletter_any _ _).mono ?_
  rintro e w' ⟨rfl, rfl⟩
  rw [H1.out]
  go_wp2_with fail
  refine (lexdigit_any _ _).mono ?_
  rintro e w' ⟨rfl, rfl⟩
  rw [H2.out]
  go_wp2_with fail
  refine wp_loop_rounds 3 ?_
  rw [rounds_succ]
  go_wp2_with fail
  rw [rounds_succ]
  go_wp2_with fail
  refine (lexmark _ _).mono ?_
  rintro e w' ⟨rfl, rfl⟩
  rw [HN.out]
  go_wp2_with fail
  refine ret_tok rfl rfl rfl rfl ?_ ?_ ?_ ?_ ⟨rfl, ?_⟩
  · simp [go_sem]
  · simp [go_sem]
  · simp [go_sem]
  · simp [go_sem]
  · exact (((Below.refl _ _).alloc (Nat.le_refl _) _).alloc (by simp) _)
set_option maxHeartbeats 2000000 in
theorem next_nones (l : List UInt8) (h0 : 0 < l.length) (h1 : Lx.bp Lx.letter (l[0]'h0) = false) (h2 : Lx.bp Lx.digit (l[0]'h0) = false) (hg : ¬ 2 ≤ l.length) (hn : Lx.isMark (l.take 1) = false) (hl : l.length ≤ maxLen) (w : World) :
    Calls Try.prog 55 #[.string ⟨l.toArray⟩] w fun e w' => e = .returned (.tuple #[tokAgg ⟨0, [], 0, 0⟩, .int .i64 15]) ∧ Below w.heap.size w w' := by
  unfold tokAgg
  unfold maxLen at hl
  have H1 : Hid (Lx.letter ((l[0]'h0).toNat : Int) = false) := h1
  have H2 : Hid (Lx.digit ((l[0]'h0).toNat : Int) = false) := h2
  clear h1 h2
  have hcb : ((l[0]'h0).toNat : Int) ≤ 255 := by have := (l[0]'h0).toNat_lt; omega
  have HN := Lib.hid hn
  clear hn
  go_enter Try.func55, Try.ntmps55
  go_wp2_with fail
  refine (lexletter_any _ _).mono ?_
  rintro e w' ⟨rfl, rfl⟩
  rw [H1.out]
  go_wp2_with fail
  refine (lexdigit_any _ _).mono ?_
  rintro e w' ⟨rfl, rfl⟩
  rw [H2.out]
  go_wp2_with fail
  refine wp_loop_rounds 3 ?_
  rw [rounds_succ]
  go_wp2_with fail
  rw [rounds_succ]
  go_wp2_with fail
  refine (lexmark _ _).mono ?_
  rintro e w' ⟨rfl, rfl⟩
  rw [HN.out]
  go_wp2_with fail
  rw [rounds_succ]
  go_wp2_with fail
  refine ret_tok rfl rfl rfl rfl ?_ ?_ ?_ ?_ ⟨rfl, ?_⟩
  · simp [go_sem]
  · simp [go_sem]
  · simp [go_sem]
  · simp [go_sem]
  · exact (((Below.refl _ _).alloc (Nat.le_refl _) _).alloc (by simp) _)
/-- the token with which a text begins, whatever it is -/
theorem lexnext (l : List UInt8) (hl0 : l ≠ []) (hl : l.length ≤ maxLen) (w : World) :
    Calls Try.prog 55 #[.string ⟨l.toArray⟩] w fun e w' => e = .returned (.tuple #[tokAgg (Lx.next l).1, .int .i64 (Lx.next l).2]) ∧ Below w.heap.size w w' := by
  have h0 : 0 < l.length := List.length_pos_iff.2 hl0
  have hh := headD_at h0
  rcases h1 : Lx.bp Lx.letter (l[0]'h0) with _ | _
  · rcases h2 : Lx.bp Lx.digit (l[0]'h0) with _ | _
    · rw [Lx.next_mark (by rw [hh]; exact h1) (by rw [hh]; exact h2)]
      by_cases hg : 2 ≤ l.length
      · rcases hm : Lx.isMark (l.take 2) with _ | _
        · rw [if_neg (by simp)]
          rcases hn : Lx.isMark (l.take 1) with _ | _
          · exact next_none l h0 h1 h2 hg hm hn hl w
          · exact next_mark1 l h0 h1 h2 hg hm hn hl w
        · rw [if_pos ⟨hg, rfl⟩]
          exact next_mark2 l h0 h1 h2 hg hm hl w
      · rw [if_neg (fun e => hg e.1)]
        rcases hn : Lx.isMark (l.take 1) with _ | _
        · exact next_nones l h0 h1 h2 hg hn hl w
        · exact next_mark1s l h0 h1 h2 hg hn hl w
    · rw [Lx.next_digit (by rw [hh]; exact h1) (by rw [hh]; exact h2)]
      rcases hr : Lx.readOk (Lx.hd Lx.digit l) with _ | _
      · exact next_bad l h0 h1 h2 hr hl w
      · exact next_num l h0 h1 h2 hr hl w
  · rw [Lx.next_letter (by rw [hh]; exact h1)]
    rcases hw : Lx.isWord (Lx.hd Lx.inner l) with _ | _
    · rw [if_neg (by simp)]
      by_cases hg : 16 < (Lx.hd Lx.inner l).length
      · rw [if_pos hg]; exact next_big l h0 h1 hw hg hl w
      · rw [if_neg hg]; exact next_name l h0 h1 hw hg hl w
    · exact next_word l h0 h1 hw hl w
end Go.Proofs.Ytilkilffkjhhbaa
namespace Go.Proofs.Ytilkilffkjhhbaa
set_option maxRecDepth 20000
set_option linter.unusedVariables false
open Go.RowKit
attribute [local go_sem] ex_take ex_drop ba_get

def tokCells (t : Lx.Tok) : List Value := [.int .i64 t.kind, .string ⟨t.text.toArray⟩, .int .i32 t.n, .int .i64 t.at_]
def toksCells (l : List Lx.Tok) : List Value := l.flatMap tokCells
theorem toksCells_snoc (l : List Lx.Tok) (t : Lx.Tok) : toksCells (l ++ [t]) = toksCells l ++ tokCells t := by simp [toksCells]
theorem toksCells_len (l : List Lx.Tok) : (toksCells l).length = l.length * 4 := by
  induction l with
  | nil => rfl
  | cons t l ih => simp only [toksCells, List.flatMap_cons, List.length_append, List.length_cons] at *; rw [ih]; simp [tokCells]; omega
theorem below_drewN {B : Nat} {a w : World} (h : Below B a w) (n : Nat) : Below B a (w.drewN n) := ⟨h.os, h.tape, h.output, h.size, h.block⟩
theorem own_below {w w' : World} {base : Nat} {e : TypeId} {size : Nat} {v : Value} {n : Nat} {xs : List Value} (h : w.ownsRow base e size v n xs) (hb : Below w.heap.size w w') : w'.ownsRow base e size v n xs := by
  refine ⟨h.1, ?_⟩
  rcases h.2 with h2 | ⟨g, cap, cur, hv, hg, hh, r⟩
  · exact .inl h2
  · exact .inr ⟨g, cap, cur, hv, hg, by rw [hb.block g (Array.getElem?_eq_some_iff.1 hh).1]; exact hh, r⟩
theorem add_at (g j : Nat) : (⟨g, 0, none⟩ : Addr).add j = ⟨g, j, none⟩ := by unfold Addr.add; split <;> simp_all
theorem cells_new (W : World) (cs : Array Value) (t : TypeId) (g : Nat) (hg : g = W.heap.size) : ∀ j u, cs.toList[j]? = some u → (W.alloc (.cells cs t)).cell? ((⟨g, 0, none⟩ : Addr).add j) = some u := by
  intro j u hu
  subst hg
  rw [add_at, cell_of_row _ W.heap.size j cs t (0, 0) (heap_alloc_new W _)]
  simpa using hu
theorem tok_one (t : Lx.Tok) : ∀ u ∈ tokCells t, u.oneCell' = true := by intro u hu; simp [tokCells] at hu; rcases hu with rfl | rfl | rfl | rfl <;> rfl
theorem infoTok : (Try.prog.info? 40).map (fun i => (i.zero, i.size, i.bytes)) = some (some (.agg #[.int .i64 0, .string ⟨#[]⟩, .int .i32 0, .int .i64 0]), 4, 40) := by kernel_rfl
/-- after some rounds: what is done, what is left -/
structure ScanAt (l : List UInt8) (done : List Lx.Tok) (m : List UInt8) : Prop where
  eq : Lx.scanL l.length (Lx.pass l) = if (Lx.scanL l.length m).2.1 ≠ 0 then ([], (Lx.scanL l.length m).2.1, (Lx.scanL l.length m).2.2) else (done ++ (Lx.scanL l.length m).1, 0, 0)
  room : done.length + m.length ≤ l.length
theorem ScanAt.start (l : List UInt8) : ScanAt l [] (Lx.pass l) := by
  refine ⟨?_, by simpa using Lx.pass_len l⟩
  by_cases h : (Lx.scanL l.length (Lx.pass l)).2.1 = 0
  · rw [if_neg (fun e => e h)]
    exact Lx.scanL_ok _ _ h
  · rw [if_pos h, ← Lx.scanL_bad_nil _ _ _ (Nat.lt_succ_self _) h]
theorem ScanAt.step {l : List UInt8} {done : List Lx.Tok} {m : List UInt8} (h : ScanAt l done m) (hm : m ≠ []) (he : (Lx.next m).2 = 0) :
    ScanAt l (done ++ [{ (Lx.next m).1 with at_ := (l.length : Int) - m.length }]) (Lx.pass (m.drop (Lx.next m).1.text.length)) := by
  have ht := Lx.next_text hm he
  have hp := Lx.pass_len (m.drop (Lx.next m).1.text.length)
  refine ⟨?_, ?_⟩
  · rw [h.eq, Lx.scanL_good _ hm he]
    by_cases hf : (Lx.scanL l.length (Lx.pass (m.drop (Lx.next m).1.text.length))).2.1 = 0
    · simp only [hf, ne_eq, not_true_eq_false, if_false, List.append_assoc, List.singleton_append]
    · simp only [hf, ne_eq, not_false_eq_true, if_true]
  · have := h.room
    rw [List.length_drop] at hp
    simp only [List.length_append, List.length_cons, List.length_nil]
    omega
theorem ScanAt.bad {l : List UInt8} {done : List Lx.Tok} {m : List UInt8} (h : ScanAt l done m) (hm : m ≠ []) (he : (Lx.next m).2 ≠ 0) :
    Lx.scanL l.length (Lx.pass l) = ([], (Lx.next m).2, (l.length : Int) - m.length) := by
  rw [h.eq, Lx.scanL_bad _ hm he]
  simp only
  rw [if_pos he]
theorem ScanAt.fin {l : List UInt8} {done : List Lx.Tok} (h : ScanAt l done []) : Lx.scanL l.length (Lx.pass l) = (done, 0, 0) := by
  rw [h.eq, Lx.scanL_nil]; simp
/-- what Scan gives back -/
def ScanGives (l : List UInt8) (w : World) (e : Ending) (w' : World) : Prop :=
  ∃ v, e = .returned (.tuple #[v, .int .i64 (Lx.scan l).2.1, .int .i64 (Lx.scan l).2.2]) ∧ w'.ownsRow w.heap.size 40 4 v (Lx.scan l).1.length (toksCells (Lx.scan l).1) ∧ Below w.heap.size w w'
theorem scanGives_mk {l : List UInt8} {w w' : World} {v : Value} {ts : List Lx.Tok} {e p : Int} (hs : Lx.scan l = (ts, e, p)) (ho : w'.ownsRow w.heap.size 40 4 v ts.length (toksCells ts)) (hb : Below w.heap.size w w') :
    ScanGives l w (.returned (.tuple #[v, .int .i64 e, .int .i64 p])) w' := by
  refine ⟨v, ?_, ?_, hb⟩
  · rw [hs]
  · rw [hs]; exact ho
set_option maxRecDepth 100000 in
set_option maxHeartbeats 4000000 in
theorem lexscan (l : List UInt8) (hl : l.length ≤ maxLen) (w : World) : Calls Try.prog 19 #[.string ⟨l.toArray⟩] w (ScanGives l w) := by
  have HL := Lib.hid hl
  unfold maxLen at hl
  by_cases hbig : 4096 < l.length
  · have hs := Lib.hid (Lx.scan_big hbig)
    go_enter Try.func19, Try.ntmps19
    go_wp2
    go_ret3
    exact scanGives_mk hs.out (World.ownsRow_nil _ _ _ _) (Below.refl _ _)
  · have hs := Lib.hid (Lx.scan_small (l := l) (by omega))
    go_enter Try.func19, Try.ntmps19
    go_wp2_with fail
    refine (lexpass l HL.out _).mono ?_
    rintro e w0 ⟨rfl, hb0⟩
    go_wp2_with fail
    go_loopw [5, 6] (fun v u wr => ∃ (done : List Lx.Tok) (m : List UInt8), u = .string ⟨m.toArray⟩ ∧ m.length ≤ l.length ∧ Hid (ScanAt l done m) ∧ done.length ≤ 4096 ∧ Hid (wr.ownsRow w.heap.size 40 4 v done.length (toksCells done)) ∧ Below w.heap.size w wr) (fun _ u _ => strLen u)
    case atStart => exact ⟨[], Lx.pass l, rfl, Lx.pass_len l, ScanAt.start l, by simp, World.ownsRow_nil _ _ _ _, hb0⟩
    case round =>
      obtain ⟨done, m, rfl, hm, HS, hdn, HO, hb⟩ := hrel
      by_cases h0 : m = []
      · subst h0
        go_wp2_with fail
        go_ret3
        have hf := HS.out.fin
        exact scanGives_mk (hs.out.trans hf) HO.out hb
      · have hm0 := Lib.hid h0
        have hne : (!m.isEmpty) = true := by simpa using h0
        clear h0
        have hm1 : m.length ≤ maxLen := by unfold maxLen; omega
        have HM1 := Lib.hid hm1
        clear hm1
        by_cases he : (Lx.next m).2 = 0
        · have HN := Lib.hid he
          have ht := Lx.next_text hm0.out he
          have hp := Lx.pass_len (m.drop (Lx.next m).1.text.length)
          have hst := Lib.hid (HS.out.step hm0.out he)
          rw [List.length_drop] at hp
          have hat := Lx.next_at m
          have hroom := hst.out.room
          simp only [List.length_append, List.length_cons, List.length_nil] at hroom
          have hok := Lib.hid (show (m.drop (Lx.next m).1.text.length).length ≤ maxLen by rw [List.length_drop]; unfold maxLen; omega)
          generalize hq : Lx.pass (m.drop (Lx.next m).1.text.length) = q at *
          generalize hx : m.drop (Lx.next m).1.text.length = x at *
          have HQ := Lib.hid hq
          clear he hq
          generalize ht' : (Lx.next m).1 = t at *
          have HT := Lib.hid ht'
          clear ht'
          obtain ⟨k, tx, nn, pl⟩ := t
          simp only at hat ht hp hroom hx
          subst hat
          obtain ⟨i0, hi, hz0, hz1, hz2⟩ := info_parts infoTok
          have HT1 := Lib.hid ht.1
          obtain ⟨ht0, ht1, ht2⟩ := ht
          clear ht0
          go_wp2_with fail
          refine (lexnext m hm0.out HM1.out _).mono ?_
          rintro e w1 ⟨rfl, hb1⟩
          rw [HN.out, HT.out]
          unfold tokAgg
          have HB := Lib.hid (hb.trans (hb1.mono hb.size))
          have hz1' : wr.heap.size ≤ w1.heap.size := hb1.size
          have hown1 := Lib.hid (own_below HO.out hb1)
          have hlt := Lib.hid HO.out.lt
          clear hb1
          go_wp2_with ((at_builtin; refine wpList_append_own _ rfl _ _ 36 rfl w.heap.size 40 i0 (.agg #[.int .i64 0, .string ⟨#[]⟩, .int .i32 0, .int .i64 0]) 4 40 Try.underlying36 hi hz0 hz1 hz2 rfl (by decide) _ _ _ rfl ((hown1.out.alloc _).alloc _) ⟨w1.heap.size + 1, 0, none⟩ 1 1 (tokCells ⟨k, tx, nn, (l.length : Int) - m.length⟩) rfl rfl ?c1 ?c2 ?c3 ?c4 ?c5 ?_))
          case c1 => exact cells_new _ _ _ _ (by simp)
          case c2 => exact tok_one _
          case c3 => unfold maxLen; omega
          case c4 => omega
          case c5 => have := HB.out.size; simp; omega
          intro v' w2 hown2 hgrow _
          have hne2 : some w1.heap.size ≠ u5.ownBlock := fun e => by have := (hlt.out _ e.symm).2; omega
          have hc1 : w2.cell? ⟨w1.heap.size, 1, none⟩ = some (.string ⟨tx.toArray⟩) := hgrow.cell (by simp [go_sem]) hne2
          have HB2 : Hid (Below w.heap.size w w2) := ((HB.out.alloc HB.out.size _).alloc (by have := HB.out.size; simp; omega) _).grown hgrow (by have := HB.out.size; simp; omega) (fun k hk => (hlt.out k hk).1)
          have HO2 := Lib.hid hown2
          clear hown2 hgrow hne2
          go_wp2_with fail
          refine (lexpass x hok.out _).mono ?_
          rintro e w3 ⟨rfl, hb3⟩
          have hq := HQ.out
          rw [hq]
          clear hq
          go_wp2_with fail
          go_roundw
          case rel =>
            refine ⟨done ++ [⟨k, tx, nn, (l.length : Int) - m.length⟩], q, rfl, by omega, hst, by simp; omega, ?_, HB2.out.trans (hb3.mono HB2.out.size)⟩
            have := own_below HO2.out hb3
            rw [← toksCells_snoc] at this
            have h2 : (done ++ [(⟨k, tx, nn, (l.length : Int) - m.length⟩ : Lx.Tok)]).length = done.length + 1 := by simp
            rw [h2]
            exact this
          case measure =>
            simp [strLen, ByteArray.size]
            omega
        · have HE := Lib.hid he
          have HF := Lib.hid (HS.out.bad hm0.out he)
          have heb : ((Lx.next m).2 != 0) = true := by rw [bne_iff_ne]; exact he
          clear he
          generalize ht' : (Lx.next m).1 = t at *
          have HT := Lib.hid ht'
          clear ht'
          generalize hee : (Lx.next m).2 = ee at *
          have HEE := Lib.hid hee
          clear hee
          obtain ⟨k, tx, nn, pl⟩ := t
          go_wp2_with fail
          refine (lexnext m hm0.out HM1.out _).mono ?_
          rintro e w1 ⟨rfl, hb1⟩
          rw [HT.out, HEE.out]
          unfold tokAgg
          have HB := Lib.hid (hb.trans (hb1.mono hb.size))
          clear hb1
          go_wp2_with fail
          go_quiet (fail)
          go_wp2_with fail
          go_ret3
          exact scanGives_mk (hs.out.trans HF.out) (World.ownsRow_nil _ _ _ _) (below_drewN (HB.out.alloc HB.out.size _) _)
end Go.Proofs.Ytilkilffkjhhbaa
namespace Go.Proofs.Ytilkilffkjhhbaa
set_option maxRecDepth 20000
set_option linter.unusedVariables false
open Go.RowKit
attribute [local go_sem] ex_take ex_drop ba_get

set_option maxHeartbeats 2000000 in
theorem lexname (l : List UInt8) (hl : l.length ≤ maxLen) (w : World) :
    Calls Try.prog 75 #[.string ⟨l.toArray⟩] w fun e w' => e = .returned (.bool (Lx.isName l)) ∧ Below w.heap.size w w' := by
  have HL := Lib.hid hl
  unfold maxLen at hl
  by_cases h0 : l = []
  · subst h0
    go_enter Try.func75, Try.ntmps75
    go_wp2_with fail
    go_ret
    exact ⟨rfl, Below.refl _ _⟩
  · have hp : 0 < l.length := List.length_pos_iff.2 h0
    have hne : (!l.isEmpty) = true := by simpa using h0
    have hh := headD_at hp
    have hcb : ((l[0]'hp).toNat : Int) ≤ 255 := by have := (l[0]'hp).toNat_lt; omega
    by_cases h16 : 16 < l.length
    · have hN : Lx.isName l = false := by unfold Lx.isName; simp; omega
      rw [hN]
      clear h0 hh hcb
      go_enter Try.func75, Try.ntmps75
      go_wp2_with fail
      go_ret
      exact ⟨rfl, Below.refl _ _⟩
    · have hN : Lx.isName l = (Lx.letter ((l[0]'hp).toNat : Int) && (Lx.hd Lx.inner l == l) && !Lx.isWord l) := by
        unfold Lx.isName
        rw [hh]
        have e1 : decide (0 < l.length) = true := by simpa using hp
        have e2 : decide (l.length ≤ 16) = true := by simp; omega
        rw [e1, e2]; rfl
      rw [hN]
      clear hN h0 hh
      rcases h1 : Lx.letter ((l[0]'hp).toNat : Int) with _ | _
      · have H1 := Lib.hid h1
        clear h1
        go_enter Try.func75, Try.ntmps75
        go_wp2_with fail
        refine (lexletter_any _ _).mono ?_
        rintro e w' ⟨rfl, rfl⟩
        rw [H1.out]
        go_wp2_with fail
        go_ret
        exact ⟨rfl, Below.refl _ _⟩
      · have H1 := Lib.hid h1
        clear h1
        rcases h2 : (Lx.hd Lx.inner l == l) with _ | _
        · go_enter Try.func75, Try.ntmps75
          go_wp2_with fail
          refine (lexletter_any _ _).mono ?_
          rintro e w' ⟨rfl, rfl⟩
          rw [H1.out]
          go_wp2_with fail
          refine (head_inner l HL.out _).mono ?_
          rintro e w1 ⟨rfl, hb1⟩
          go_wp2_with fail
          go_ret
          exact ⟨rfl, hb1⟩
        · go_enter Try.func75, Try.ntmps75
          go_wp2_with fail
          refine (lexletter_any _ _).mono ?_
          rintro e w' ⟨rfl, rfl⟩
          rw [H1.out]
          go_wp2_with fail
          refine (head_inner l HL.out _).mono ?_
          rintro e w1 ⟨rfl, hb1⟩
          go_wp2_with fail
          refine (lexword l _).mono ?_
          rintro e w' ⟨rfl, rfl⟩
          go_wp2_with fail
          go_ret
          exact ⟨by simp, hb1⟩
theorem contains_upto {xs : List (List UInt8)} {l : List UInt8} (h : ∀ j (hj : j < xs.length), (xs[j] == l) = false) : xs.contains l = false := by
  rw [← Bool.not_eq_true, List.contains_iff_mem]
  intro hm
  obtain ⟨j, hj, rfl⟩ := List.getElem_of_mem hm
  have := h j hj
  simp at this
theorem contains_at {xs : List (List UInt8)} {l : List UInt8} {j : Nat} (hj : j < xs.length) (h : (xs[j] == l) = true) : xs.contains l = true := by
  rw [beq_iff_eq] at h
  rw [List.contains_iff_mem, ← h]
  exact List.getElem_mem _
set_option maxHeartbeats 2000000 in
theorem refamong (xs : List (List UInt8)) (g : Nat) (l : List UInt8) (w : World) (hn : xs.length ≤ maxLen) (hc : ∀ k (h : k < xs.length), w.cell? ⟨g, k, none⟩ = some (.string ⟨(xs[k]'h).toArray⟩)) :
    Calls Try.prog 115 #[.slice (some ⟨g, 0, none⟩) xs.length xs.length, .string ⟨l.toArray⟩] w fun e w' => e = .returned (.bool (xs.contains l)) ∧ w = w' := by
  unfold maxLen at hn
  have HC := Lib.hid hc
  clear hc
  rcases hq : xs.contains l with _ | _
  · have HQ := Lib.hid hq
    clear hq
    go_enter Try.func115, Try.ntmps115
    go_wp2
    go_loop [5] (fun i => ∃ k : Nat, k ≤ xs.length ∧ i = .int .i64 k) (fun i => xs.length - (intOf i).toNat)
    case atStart => exact ⟨0, Nat.zero_le _, rfl⟩
    case round =>
      obtain ⟨k, hk, rfl⟩ := hrel
      by_cases hlt : k < xs.length
      · have hcell := HC.out k hlt
        have hne : ((xs[k]'hlt) == l) = false := by
          rcases h : ((xs[k]'hlt) == l) with _ | _
          · rfl
          · have := contains_at hlt h; rw [HQ.out] at this; cases this
        go_wp2
        go_round
        case rel => exact ⟨k + 1, by omega, by go_num⟩
        case measure => simp [intOf]; omega
      · go_wp2
        go_ret
        exact ⟨rfl, rfl⟩
  · have HQ := Lib.hid hq
    clear hq
    go_enter Try.func115, Try.ntmps115
    go_wp2
    go_loop [5] (fun i => ∃ k : Nat, k ≤ xs.length ∧ i = .int .i64 k ∧ Hid (∀ j (hj : j < xs.length), j < k → ((xs[j]'hj) == l) = false)) (fun i => xs.length - (intOf i).toNat)
    case atStart => exact ⟨0, Nat.zero_le _, rfl, fun j hj h => absurd h (Nat.not_lt_zero _)⟩
    case round =>
      obtain ⟨k, hk, rfl, hall⟩ := hrel
      by_cases hlt : k < xs.length
      · have hcell := HC.out k hlt
        rcases h : ((xs[k]'hlt) == l) with _ | _
        · go_wp2
          go_round
          case rel =>
            refine ⟨k + 1, by omega, by go_num, fun j hj hjk => ?_⟩
            rcases Nat.lt_or_ge j k with h1 | h1
            · exact hall.out j hj h1
            · obtain rfl : j = k := by omega
              exact h
          case measure => simp [intOf]; omega
        · go_wp2
          go_ret
          exact ⟨rfl, rfl⟩
      · exfalso
        have := contains_upto (xs := xs) (l := l) (fun j hj => hall.out j hj (by omega))
        rw [HQ.out] at this
        cases this
theorem cells_strs (xs : List (List UInt8)) (W : World) (t : TypeId) (cs : Array Value) (h : cs = (xs.map (fun x => Value.string ⟨x.toArray⟩)).toArray) :
    ∀ k (hk : k < xs.length), (W.alloc (.cells cs t)).cell? ⟨W.heap.size, k, none⟩ = some (.string ⟨(xs[k]'hk).toArray⟩) := by
  intro k hk
  rw [cell_of_row _ W.heap.size k cs t (0, 0) (heap_alloc_new W _), h]
  simp [hk]
theorem refamong_word (g : Nat) (l : List UInt8) (w : World) (hc : ∀ k (h : k < Lx.words.length), w.cell? ⟨g, k, none⟩ = some (.string ⟨(Lx.words[k]'h).toArray⟩)) :
    Calls Try.prog 115 #[.slice (some ⟨g, 0, none⟩) 18 18, .string ⟨l.toArray⟩] w fun e w' => e = .returned (.bool (Lx.isWord l)) ∧ w = w' :=
  refamong Lx.words g l w (by decide) hc
theorem refamong_mark (g : Nat) (l : List UInt8) (w : World) (hc : ∀ k (h : k < Lx.marks.length), w.cell? ⟨g, k, none⟩ = some (.string ⟨(Lx.marks[k]'h).toArray⟩)) :
    Calls Try.prog 115 #[.slice (some ⟨g, 0, none⟩) 22 22, .string ⟨l.toArray⟩] w fun e w' => e = .returned (.bool (Lx.isMark l)) ∧ w = w' :=
  refamong Lx.marks g l w (by decide) hc
set_option maxHeartbeats 2000000 in
theorem refword (l : List UInt8) (w : World) :
    Calls Try.prog 103 #[.string ⟨l.toArray⟩] w fun e w' => e = .returned (.bool (Lx.isWord l)) ∧ Below w.heap.size w w' := by
  go_enter Try.func103, Try.ntmps103
  go_wp2_with fail
  refine (refamong_word _ l _ (cells_strs Lx.words _ _ _ rfl)).mono ?_
  rintro e w' ⟨rfl, rfl⟩
  go_wp2_with fail
  go_ret
  exact ⟨rfl, (Below.refl _ _).alloc (Nat.le_refl _) _⟩
set_option maxHeartbeats 2000000 in
theorem refmark (l : List UInt8) (w : World) :
    Calls Try.prog 106 #[.string ⟨l.toArray⟩] w fun e w' => e = .returned (.bool (Lx.isMark l)) ∧ Below w.heap.size w w' := by
  go_enter Try.func106, Try.ntmps106
  go_wp2_with fail
  refine (refamong_mark _ l _ (cells_strs Lx.marks _ _ _ rfl)).mono ?_
  rintro e w' ⟨rfl, rfl⟩
  go_wp2_with fail
  go_ret
  exact ⟨rfl, (Below.refl _ _).alloc (Nat.le_refl _) _⟩
/-- up to k each byte is an inner one -/
def InnerTo (l : List UInt8) (k : Nat) : Prop := ∀ j (hj : j < l.length), j < k → Lx.bp Lx.inner (l[j]'hj) = true
theorem hd_len {l : List UInt8} {k : Nat} (h : InnerTo l k) (he : k = l.length ∨ ∃ hk : k < l.length, Lx.bp Lx.inner (l[k]'hk) = false) : (Lx.hd Lx.inner l).length = k := by
  unfold Lx.hd
  rw [takeWhile_at _ _ _ h he, List.length_take]
  rcases he with rfl | ⟨hk, _⟩ <;> omega
theorem inner_eq (c : Int) : Lx.inner c = (Lx.letter c || Lx.digit c || c == 95) := rfl
theorem innerTo_succ {l : List UInt8} {k : Nat} (h : InnerTo l k) (hk : k < l.length) (hi : Lx.bp Lx.inner (l[k]'hk) = true) : InnerTo l (k + 1) := fun j hj hlt => by
  rcases Nat.lt_or_ge j k with h1 | h1
  · exact h j hj h1
  · obtain rfl : j = k := by omega
    exact hi
set_option maxHeartbeats 4000000 in
theorem refrun (l : List UInt8) (hl : l.length ≤ maxLen) (w : World) :
    Calls Try.prog 102 #[.string ⟨l.toArray⟩, .int .i64 0, .int .i64 0] w fun e w' => e = .returned (.int .i64 (Lx.hd Lx.inner l).length) ∧ w = w' := by
  unfold maxLen at hl
  go_enter Try.func102, Try.ntmps102
  go_wp2
  go_loop [7] (fun i => ∃ k : Nat, k ≤ l.length ∧ i = .int .i64 k ∧ Hid (InnerTo l k)) (fun i => l.length - (intOf i).toNat)
  case atStart => exact ⟨0, Nat.zero_le _, rfl, fun j hj h => absurd h (Nat.not_lt_zero _)⟩
  case round =>
    obtain ⟨k, hk, rfl, hu⟩ := hrel
    by_cases hlt : k < l.length
    · have hcb : ((l[k]'hlt).toNat : Int) ≤ 255 := by have := (l[k]'hlt).toNat_lt; omega
      rcases h1 : Lx.digit ((l[k]'hlt).toNat : Int) with _ | _
      · have H1 := Lib.hid h1
        clear h1
        rcases h2 : Lx.letter ((l[k]'hlt).toNat : Int) with _ | _
        · have H2 := Lib.hid h2
          clear h2
          rcases h3 : (((l[k]'hlt).toNat : Int) != 95) with _ | _
          · go_wp2_with fail
            refine (refdigit_any _ _).mono ?_
            rintro e w' ⟨rfl, rfl⟩
            rw [H1.out]
            go_wp2_with fail
            refine (refletter_any _ _).mono ?_
            rintro e w' ⟨rfl, rfl⟩
            rw [H2.out]
            go_wp2_with fail
            go_round
            case rel =>
              refine ⟨k + 1, by omega, by go_num, innerTo_succ hu.out hlt ?_⟩
              have : (((l[k]'hlt).toNat : Int) == 95) = true := by simpa using h3
              show Lx.inner _ = true
              rw [inner_eq, H1.out, H2.out, this]; rfl
            case measure => simp [intOf]; omega
          · go_wp2_with fail
            refine (refdigit_any _ _).mono ?_
            rintro e w' ⟨rfl, rfl⟩
            rw [H1.out]
            go_wp2_with fail
            refine (refletter_any _ _).mono ?_
            rintro e w' ⟨rfl, rfl⟩
            rw [H2.out]
            go_wp2_with fail
            go_ret
            have hin : Lx.bp Lx.inner (l[k]'hlt) = false := by
              have : (((l[k]'hlt).toNat : Int) == 95) = false := by simpa using h3
              show Lx.inner _ = false
              rw [inner_eq, H1.out, H2.out, this]; rfl
            rw [hd_len hu.out (.inr ⟨hlt, hin⟩)]
            exact ⟨rfl, rfl⟩
        · have H2 := Lib.hid h2
          clear h2
          go_wp2_with fail
          refine (refdigit_any _ _).mono ?_
          rintro e w' ⟨rfl, rfl⟩
          rw [H1.out]
          go_wp2_with fail
          refine (refletter_any _ _).mono ?_
          rintro e w' ⟨rfl, rfl⟩
          rw [H2.out]
          go_wp2_with fail
          go_round
          case rel =>
            refine ⟨k + 1, by omega, by go_num, innerTo_succ hu.out hlt ?_⟩
            show Lx.inner _ = true
            rw [inner_eq, H2.out]; rfl
          case measure => simp [intOf]; omega
      · have H1 := Lib.hid h1
        clear h1
        go_wp2_with fail
        refine (refdigit_any _ _).mono ?_
        rintro e w' ⟨rfl, rfl⟩
        rw [H1.out]
        go_wp2_with fail
        go_round
        case rel =>
          refine ⟨k + 1, by omega, by go_num, innerTo_succ hu.out hlt ?_⟩
          show Lx.inner _ = true
          rw [inner_eq, H1.out]; simp
        case measure => simp [intOf]; omega
    · go_wp2_with fail
      go_ret
      rw [hd_len hu.out (.inl (by omega))]
      exact ⟨rfl, rfl⟩
theorem hd_full (p : Int → Bool) (l : List UInt8) : ((((Lx.hd p l).length : Nat) : Int) == ((l.length : Nat) : Int)) = (Lx.hd p l == l) := by
  rw [Bool.eq_iff_iff, beq_iff_eq, beq_iff_eq]
  constructor
  · intro h
    exact List.IsPrefix.eq_of_length (List.takeWhile_prefix _) (by omega)
  · intro h; rw [h]
set_option maxHeartbeats 2000000 in
theorem refname (l : List UInt8) (hl : l.length ≤ maxLen) (w : World) :
    Calls Try.prog 81 #[.string ⟨l.toArray⟩] w fun e w' => e = .returned (.bool (Lx.isName l)) ∧ Below w.heap.size w w' := by
  have HL := Lib.hid hl
  unfold maxLen at hl
  by_cases h0 : l = []
  · subst h0
    go_enter Try.func81, Try.ntmps81
    go_wp2_with fail
    go_ret
    exact ⟨rfl, Below.refl _ _⟩
  · have hp : 0 < l.length := List.length_pos_iff.2 h0
    have hh := headD_at hp
    have hcb : ((l[0]'hp).toNat : Int) ≤ 255 := by have := (l[0]'hp).toNat_lt; omega
    by_cases h16 : 16 < l.length
    · have hN : Lx.isName l = false := by unfold Lx.isName; simp; omega
      rw [hN]
      clear h0 hh hcb
      go_enter Try.func81, Try.ntmps81
      go_wp2_with fail
      go_ret
      exact ⟨rfl, Below.refl _ _⟩
    · have hN : Lx.isName l = (Lx.letter ((l[0]'hp).toNat : Int) && (Lx.hd Lx.inner l == l) && !Lx.isWord l) := by
        unfold Lx.isName
        rw [hh]
        have e1 : decide (0 < l.length) = true := by simpa using hp
        have e2 : decide (l.length ≤ 16) = true := by simp; omega
        rw [e1, e2]; rfl
      rw [hN]
      clear hN h0 hh
      rcases h1 : Lx.letter ((l[0]'hp).toNat : Int) with _ | _
      · have H1 := Lib.hid h1
        clear h1
        go_enter Try.func81, Try.ntmps81
        go_wp2_with fail
        refine (refletter_any _ _).mono ?_
        rintro e w' ⟨rfl, rfl⟩
        rw [H1.out]
        go_wp2_with fail
        go_ret
        exact ⟨rfl, Below.refl _ _⟩
      · have H1 := Lib.hid h1
        clear h1
        have hf := hd_full Lx.inner l
        rcases h2 : (Lx.hd Lx.inner l == l) with _ | _
        · rw [h2] at hf
          clear h2
          go_enter Try.func81, Try.ntmps81
          go_wp2_with fail
          refine (refletter_any _ _).mono ?_
          rintro e w' ⟨rfl, rfl⟩
          rw [H1.out]
          go_wp2_with fail
          refine (refrun l HL.out _).mono ?_
          rintro e w1 ⟨rfl, rfl⟩
          go_wp2_with fail
          go_ret
          exact ⟨rfl, Below.refl _ _⟩
        · rw [h2] at hf
          clear h2
          go_enter Try.func81, Try.ntmps81
          go_wp2_with fail
          refine (refletter_any _ _).mono ?_
          rintro e w' ⟨rfl, rfl⟩
          rw [H1.out]
          go_wp2_with fail
          refine (refrun l HL.out _).mono ?_
          rintro e w1 ⟨rfl, rfl⟩
          go_wp2_with fail
          refine (refword l _).mono ?_
          rintro e w' ⟨rfl, hb1⟩
          go_wp2_with fail
          go_ret
          exact ⟨by simp, hb1⟩
end Go.Proofs.Ytilkilffkjhhbaa
namespace Go.Proofs.Ytilkilffkjhhbaa
set_option maxRecDepth 20000
set_option linter.unusedVariables false
open Go.RowKit
attribute [local go_sem] ex_take ex_drop ba_get

/-- the row of cells from an address on reads as these tokens -/
def TokAt (w : World) (A : Option Addr) (ts : List Lx.Tok) : Prop := ∀ k (h : k < ts.length), ∃ b off, A = some ⟨b, off, none⟩ ∧
  w.cell? ⟨b, off + k * 4, none⟩ = some (.int .i64 (ts[k]'h).kind) ∧ w.cell? ⟨b, off + k * 4 + 1, none⟩ = some (.string ⟨(ts[k]'h).text.toArray⟩) ∧
  w.cell? ⟨b, off + k * 4 + 2, none⟩ = some (.int .i32 (ts[k]'h).n) ∧ w.cell? ⟨b, off + k * 4 + 3, none⟩ = some (.int .i64 (ts[k]'h).at_)
theorem TokAt.below {w w' : World} {A : Option Addr} {ts : List Lx.Tok} {B : Nat} (h : TokAt w A ts) (hb : Below B w w') (hB : w.heap.size ≤ B ∨ ∀ b off s, A = some ⟨b, off, s⟩ → b < B) : TokAt w' A ts := by
  intro k hk
  obtain ⟨b, off, rfl, h0, h1, h2, h3⟩ := h k hk
  have hlt := World.block_lt_of_cell? _ _ h0
  have hbB : b < B := by
    rcases hB with hB | hB
    · exact Nat.lt_of_lt_of_le hlt hB
    · exact hB _ _ _ rfl
  exact ⟨b, off, rfl, (hb.cell (p := ⟨b, _, none⟩) hbB).trans h0, (hb.cell (p := ⟨b, _, none⟩) hbB).trans h1, (hb.cell (p := ⟨b, _, none⟩) hbB).trans h2, (hb.cell (p := ⟨b, _, none⟩) hbB).trans h3⟩
theorem toksCells_at : ∀ (ts : List Lx.Tok) (k : Nat) (h : k < ts.length), (toksCells ts)[k * 4]? = some (.int .i64 (ts[k]'h).kind) ∧ (toksCells ts)[k * 4 + 1]? = some (.string ⟨(ts[k]'h).text.toArray⟩) ∧
    (toksCells ts)[k * 4 + 2]? = some (.int .i32 (ts[k]'h).n) ∧ (toksCells ts)[k * 4 + 3]? = some (.int .i64 (ts[k]'h).at_)
  | [], k, h => by simp at h
  | t :: ts, 0, _ => by simp [toksCells, tokCells]
  | t :: ts, k + 1, h => by
    have ih := toksCells_at ts k (by simpa using h)
    have e : toksCells (t :: ts) = tokCells t ++ toksCells ts := by simp [toksCells]
    have l4 : (tokCells t).length = 4 := rfl
    have sh : ∀ j, (toksCells (t :: ts))[(k + 1) * 4 + j]? = (toksCells ts)[k * 4 + j]? := by
      intro j
      rw [e, List.getElem?_append_right (by rw [l4]; omega), l4]
      congr 1
      omega
    have s0 := sh 0
    simp only [Nat.add_zero] at s0
    rw [s0, sh 1, sh 2, sh 3]
    simpa using ih
theorem own_slice {w : World} {base : Nat} {e : TypeId} {size : Nat} {v : Value} {n : Nat} {xs : List Value} (h : w.ownsRow base e size v n xs) : ∃ A c, v = .slice A n c := by
  rcases h.2 with ⟨rfl, rfl⟩ | ⟨g, cap, cur, rfl, _⟩
  · exact ⟨_, _, rfl⟩
  · exact ⟨_, _, rfl⟩
theorem TokAt.of_own {w : World} {base c : Nat} {A : Option Addr} {ts : List Lx.Tok} {e : TypeId} (h : w.ownsRow base e 4 (.slice A ts.length c) ts.length (toksCells ts)) : TokAt w A ts := by
  intro k hk
  rcases h.2 with ⟨_, h2⟩ | ⟨g, cap, cur, hv, _, hg, hn, hc, hs, ht⟩
  · omega
  · injection hv with hv1 hv2 hv3
    subst hv1
    have hat : ∀ j u, (toksCells ts)[j]? = some u → w.cell? ⟨g, 0 + j, none⟩ = some u := by
      intro j u hu
      rw [Nat.zero_add]
      rw [cell_of_row w g j cur e (0, 0) hg]
      rw [← ht, List.getElem?_take] at hu
      split at hu
      · simpa using hu
      · cases hu
    obtain ⟨a0, a1, a2, a3⟩ := toksCells_at ts k hk
    exact ⟨g, 0, rfl, hat _ _ a0, hat _ _ a1, hat _ _ a2, hat _ _ a3⟩
theorem text_snoc : ∀ (l : List Lx.Tok) (t : Lx.Tok), Lx.text (l ++ [t]) = if l = [] then t.text else Lx.text l ++ ([32] ++ t.text)
  | [], t => rfl
  | [u], t => by rw [if_neg (by simp)]; simp [Lx.text]
  | u :: v :: l, t => by
    have ih := text_snoc (v :: l) t
    rw [if_neg (by simp)] at ih ⊢
    show u.text ++ [32] ++ Lx.text ((v :: l) ++ [t]) = u.text ++ [32] ++ Lx.text (v :: l) ++ ([32] ++ t.text)
    rw [ih]
    simp
theorem text_take (ts : List Lx.Tok) (k : Nat) (h : k < ts.length) : Lx.text (ts.take (k + 1)) = if k = 0 then (ts[k]'h).text else Lx.text (ts.take k) ++ ([32] ++ (ts[k]'h).text) := by
  rw [List.take_succ_eq_append_getElem h, text_snoc]
  congr 1
  rw [eq_iff_iff]
  constructor
  · intro e
    have := congrArg List.length e
    rw [List.length_take, List.length_nil] at this
    omega
  · rintro rfl; rfl
theorem text_take_le (ts : List Lx.Tok) : ∀ k, k ≤ ts.length → (Lx.text (ts.take k)).length ≤ (Lx.text ts).length := by
  have step : ∀ k, k < ts.length → (Lx.text (ts.take k)).length ≤ (Lx.text (ts.take (k + 1))).length := by
    intro k hk
    rw [text_take ts k hk]
    split
    · rename_i h; subst h; simp [Lx.text]
    · simp
  have key : ∀ d k, k + d = ts.length → (Lx.text (ts.take k)).length ≤ (Lx.text ts).length := by
    intro d
    induction d with
    | zero => intro k h; rw [List.take_of_length_le (by omega)]; exact Nat.le_refl _
    | succ d ih => intro k h; exact Nat.le_trans (step k (by omega)) (ih (k + 1) (by omega))
  intro k h
  exact key (ts.length - k) k (by omega)
theorem ba_append (a b : List UInt8) : (ByteArray.mk a.toArray) ++ (ByteArray.mk b.toArray) = ByteArray.mk (a ++ b).toArray := by
  apply ByteArray.ext
  simp [ByteArray.data_append]
theorem ba_sp (a : List UInt8) : (ByteArray.mk a.toArray) ++ (ByteArray.mk #[32]) = ByteArray.mk (a ++ [32]).toArray := ba_append a [32]
attribute [local go_sem] ba_append ba_sp
def tokEq (t u : Lx.Tok) : Bool := (t.kind == u.kind) && (t.text == u.text) && (t.n == u.n)
theorem sameToks_strip : ∀ ts us : List Lx.Tok, ts.map Lx.strip = us.map Lx.strip → ts.length = us.length ∧ ∀ k (h : k < ts.length) (h' : k < us.length), tokEq (ts[k]'h) (us[k]'h') = true
  | [], [], _ => ⟨rfl, fun k h => by simp at h⟩
  | [], u :: us, h => by simp at h
  | t :: ts, [], h => by simp at h
  | t :: ts, u :: us, h => by
    simp only [List.map_cons, List.cons.injEq] at h
    have ih := sameToks_strip ts us h.2
    refine ⟨by simp [ih.1], fun k hk hk' => ?_⟩
    cases k with
    | zero =>
      have h1 := congrArg Lx.Tok.kind h.1
      have h2 := congrArg Lx.Tok.text h.1
      have h3 := congrArg Lx.Tok.n h.1
      simp only [Lx.strip] at h1 h2 h3
      simp [tokEq, h1, h2, h3]
    | succ k => exact ih.2 k (by simpa using hk) (by simpa using hk')
theorem text_cons_le (t : Lx.Tok) (r : List Lx.Tok) : (Lx.text (t :: r)).length ≤ t.text.length + 1 + (Lx.text r).length := by
  rw [Lx.text_cons]; split
  · omega
  · simp; omega
theorem scanL_size (N : Nat) : ∀ (n : Nat) (l : List UInt8), l.length < n → (Lx.text (Lx.scanL N l).1).length ≤ 2 * l.length ∧ (Lx.scanL N l).1.length ≤ l.length := by
  intro n
  induction n with
  | zero => intro l h; omega
  | succ n ih =>
    intro l h
    by_cases hl : l = []
    · subst hl; rw [Lx.scanL_nil]; simp [Lx.text]
    · by_cases he : (Lx.next l).2 = 0
      · have ht := Lx.next_text hl he
        have hp := Lx.pass_len (l.drop (Lx.next l).1.text.length)
        rw [List.length_drop] at hp
        have i := ih (Lx.pass (l.drop (Lx.next l).1.text.length)) (by omega)
        rw [Lx.scanL_good _ hl he]
        split
        · simp [Lx.text]
        · have := text_cons_le { (Lx.next l).1 with at_ := (N : Int) - l.length } (Lx.scanL N (Lx.pass (l.drop (Lx.next l).1.text.length))).1
          simp only [List.length_cons] at this ⊢
          omega
      · rw [Lx.scanL_bad _ hl he]; simp [Lx.text]
theorem scan_size (s : List UInt8) : (Lx.text (Lx.scan s).1).length ≤ 2 * s.length ∧ (Lx.scan s).1.length ≤ s.length := by
  by_cases h : 4096 < s.length
  · rw [Lx.scan_big h]; simp [Lx.text]
  · rw [Lx.scan_small (by omega)]
    have := scanL_size s.length _ (Lx.pass s) (Nat.lt_succ_self _)
    have := Lx.pass_len s
    omega
end Go.Proofs.Ytilkilffkjhhbaa
