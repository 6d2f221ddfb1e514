/-
  The function head of the package lex: the bytes at a text's beginning that are all of a kind.
-/
import Derived.Test.YtjgklpjmbogimaaLexA
namespace Go.Proofs.Ytjgklpjmbogimaa
open Go.RowKit

/-- up to pos each byte of s is of the kind p -/
def UpTo (p : Int → Bool) (s : ByteArray) (pos : Nat) : Prop := ∀ j (hj : j < s.size), j < pos → p ((s[j]'hj).toNat : Int) = true
/-- what p says of the signs beyond 127 -/
def Plainly (p : Int → Bool) : Prop := (∀ c : Int, 128 ≤ c → p c = false) ∨ (∀ c : Int, 128 ≤ c → p c = true)
theorem upTo_step {p : Int → Bool} {s : ByteArray} {pos : Nat} (hp : Plainly p) (h : pos < s.size) (hu : UpTo p s pos) (hy : p ((Utf8.decode s pos).1 : Int) = true) :
    pos + (Utf8.decode s pos).2 ≤ s.size ∧ UpTo p s (pos + (Utf8.decode s pos).2) ∧ 1 ≤ (Utf8.decode s pos).2 := by
  by_cases ha : (s[pos]'h).toNat < 128
  · rw [decode_ascii s pos h ha] at hy ⊢
    refine ⟨by simp only; omega, fun j hj hlt => ?_, Nat.le_refl _⟩
    simp only at hlt
    rcases Nat.lt_or_ge j pos with h1 | h1
    · exact hu j hj h1
    · obtain rfl : j = pos := by omega
      exact hy
  · have h1 := decode_high s pos h (by omega)
    have h2 := cont_high s pos h (by omega)
    have hall : ∀ c : Int, 128 ≤ c → p c = true := by
      rcases hp with hp | hp
      · rw [hp _ (by omega)] at hy; cases hy
      · exact hp
    refine ⟨h2.1, fun j hj hlt => ?_, h1.2⟩
    rcases Nat.lt_or_ge j pos with h3 | h3
    · exact hu j hj h3
    · exact hall _ (by have := h2.2 j hj h3 hlt; omega)
theorem upTo_stop {p : Int → Bool} {s : ByteArray} {pos : Nat} (hp : Plainly p) (h : pos < s.size) (hy : p ((Utf8.decode s pos).1 : Int) = false) : p ((s[pos]'h).toNat : Int) = false := by
  by_cases ha : (s[pos]'h).toNat < 128
  · rw [decode_ascii s pos h ha] at hy
    exact hy
  · have h1 := decode_high s pos h (by omega)
    rcases hp with hp | hp
    · exact hp _ (by omega)
    · rw [hp _ (by omega)] at hy; cases hy
theorem takeWhile_at (q : UInt8 → Bool) : ∀ (l : List UInt8) (k : Nat), (∀ j (hj : j < l.length), j < k → q l[j] = true) → (k = l.length ∨ ∃ hk : k < l.length, q l[k] = false) → l.takeWhile q = l.take k
  | [], k, _, _ => by simp
  | c :: l, 0, _, h2 => by
    rcases h2 with h2 | ⟨_, h2⟩
    · simp at h2
    · simp at h2
      rw [List.takeWhile_cons_of_neg (by simp [h2])]; rfl
  | c :: l, k + 1, h1, h2 => by
    have hc : q c = true := h1 0 (by simp) (by omega)
    rw [List.takeWhile_cons_of_pos hc, List.take_succ_cons]
    congr 1
    refine takeWhile_at q l k (fun j hj hlt => h1 (j + 1) (by simpa using hj) (by omega)) ?_
    rcases h2 with h2 | ⟨hk, h2⟩
    · left; simpa using h2
    · right; exact ⟨by simpa using hk, by simpa using h2⟩
theorem extract_head (s : ByteArray) (k : Nat) : s.extract 0 k = ⟨(s.data.toList.take k).toArray⟩ := by
  have h := ByteArray.extract_mk s.data.toList 0 k
  simpa using h
theorem extract_all (s : ByteArray) : s.extract 0 s.size = s := by
  rw [extract_head, List.take_of_length_le (show s.data.toList.length ≤ s.size from Nat.le_refl _)]
theorem hd_upTo {p : Int → Bool} {s : ByteArray} {pos : Nat} (hu : UpTo p s pos) (he : pos = s.size ∨ ∃ h : pos < s.size, p ((s[pos]'h).toNat : Int) = false) :
    s.extract 0 pos = ⟨(Lx.hd p s.data.toList).toArray⟩ := by
  have hsz : s.data.toList.length = s.size := rfl
  have hat : ∀ j (hj : j < s.size), s.data.toList[j]'(by rw [hsz]; exact hj) = s[j]'hj := fun j hj => rfl
  have ht : Lx.hd p s.data.toList = s.data.toList.take pos := by
    unfold Lx.hd
    refine takeWhile_at _ _ _ (fun j hj hlt => ?_) ?_
    · exact hu j (by rw [← hsz]; exact hj) hlt
    · rcases he with he | ⟨h, he⟩
      · left; rw [hsz]; exact he
      · right; exact ⟨by rw [hsz]; exact h, he⟩
  rw [ht]
  exact extract_head s pos
set_option maxHeartbeats 400000 in
theorem lexhead_raw (p : Int → Bool) (fn : Nat) (hc : ∀ (args : Array Value) (w : World), (callFunc fn args).run Try.prog w = .ok (.enter fn args) w) (hf : ∀ (c : Int) (w : World), Calls Try.prog fn #[.int .i32 c] w fun e w' => e = .returned (.bool (p c)) ∧ w = w') (hp : Plainly p)
    (s : ByteArray) (_hs : s.size ≤ maxLen) (w : World) :
    Calls Try.prog 20 #[.string s, .func (.func fn) #[] #[]] w fun e w' => e = .returned (.string ⟨(Lx.hd p s.data.toList).toArray⟩) ∧ Below w.heap.size w w' := by
  unfold maxLen at _hs
  have HF := Lib.hid hf
  clear hf
  go_enter Try.func20, Try.ntmps20
  go_wp2
  go_loopw [5] (fun _ w' => ∃ pos, w' = w.iter s pos ∧ pos ≤ s.size ∧ Hid (UpTo p s pos)) (fun _ w' => s.size - w'.iterPos w.heap.size)
  case atStart => exact ⟨0, rfl, Nat.zero_le _, fun j hj h => absurd h (Nat.not_lt_zero _)⟩
  case round =>
    obtain ⟨pos, rfl, hle, hu⟩ := hrel
    by_cases h : pos < s.size
    · have hnx : ∀ ty, (Instr.next (.pointer (some ⟨w.heap.size, 0, none⟩)) true ty).run Try.prog (w.iter s pos) = _ := fun ty => run_next_any w s pos ty h
      rcases hy : p ((Utf8.decode s pos).1 : Int) with _ | _
      · have HY := Lib.hid hy
        clear hy
        go_wp2_with ((with_reducible refine (HF.out _ _).mono ?_); rintro e w' ⟨rfl, rfl⟩; rw [HY.out])
        go_ret
        have hfin := hd_upTo hu.out (.inr ⟨h, upTo_stop hp h HY.out⟩)
        exact ⟨by rw [← hfin]; rfl, (Below.refl _ _).alloc (Nat.le_refl _) _⟩
      · have HY := Lib.hid hy
        clear hy
        go_wp2_with ((with_reducible refine (HF.out _ _).mono ?_); rintro e w' ⟨rfl, rfl⟩; rw [HY.out])
        go_roundw
        case rel =>
          have hst := upTo_step hp h hu.out HY.out
          exact ⟨_, rfl, hst.1, hst.2.1⟩
        case measure =>
          have hst := upTo_step hp h hu.out HY.out
          simp
          omega
    · have hnx : ∀ ty, (Instr.next (.pointer (some ⟨w.heap.size, 0, none⟩)) true ty).run Try.prog (w.iter s pos) = _ := fun ty => run_next_end w s pos ty h
      go_wp2
      go_ret
      obtain rfl : pos = s.size := by omega
      have hfin := hd_upTo hu.out (.inl rfl)
      rw [extract_all] at hfin
      exact ⟨by rw [← hfin]; rfl, (Below.refl _ _).alloc (Nat.le_refl _) _⟩
theorem ex_take (m : List UInt8) (k : Nat) : (ByteArray.mk m.toArray).extract 0 k = ⟨(m.take k).toArray⟩ := by
  rw [ByteArray.extract_mk]; simp
theorem ex_drop (m : List UInt8) (k : Nat) : (ByteArray.mk m.toArray).extract k m.length = ⟨(m.drop k).toArray⟩ := by
  rw [ByteArray.extract_mk, ← List.length_drop, List.take_length]
theorem ba_get (m : List UInt8) (k : Nat) (h : k < (ByteArray.mk m.toArray).size) : (ByteArray.mk m.toArray)[k]'h = m[k]'(by simpa [ByteArray.size] using h) := rfl
abbrev S (l : List UInt8) : Value := .string ⟨l.toArray⟩
theorem lexhead (p : Int → Bool) (fn : Nat) (hc : ∀ (args : Array Value) (w : World), (callFunc fn args).run Try.prog w = .ok (.enter fn args) w) (hf : ∀ (c : Int) (w : World), Calls Try.prog fn #[.int .i32 c] w fun e w' => e = .returned (.bool (p c)) ∧ w = w') (hp : Plainly p)
    (l : List UInt8) (hs : l.length ≤ maxLen) (w : World) :
    Calls Try.prog 20 #[.string ⟨l.toArray⟩, .func (.func fn) #[] #[]] w fun e w' => e = .returned (.string ⟨(Lx.hd p l).toArray⟩) ∧ Below w.heap.size w w' := by
  have h := lexhead_raw p fn hc hf hp ⟨l.toArray⟩ (by simpa [ByteArray.size] using hs) w
  exact h
theorem plainly_inner : Plainly Lx.inner := .inl fun c h => by unfold Lx.inner Lx.letter Lx.digit; simp; omega
theorem plainly_digit : Plainly Lx.digit := .inl fun c h => by unfold Lx.digit; simp; omega
theorem plainly_blank : Plainly Lx.blank := .inl fun c h => by unfold Lx.blank; simp; omega
theorem plainly_other : Plainly Lx.other := .inr fun c h => by unfold Lx.other; simp; omega
theorem head_inner (l : List UInt8) (hs : l.length ≤ maxLen) (w : World) :
    Calls Try.prog 20 #[.string ⟨l.toArray⟩, .func (.func 21) #[] #[]] w fun e w' => e = .returned (.string ⟨(Lx.hd Lx.inner l).toArray⟩) ∧ Below w.heap.size w w' :=
  lexhead Lx.inner 21 (fun args w => by simp [go_sem]) lexinner_any plainly_inner l hs w
theorem head_digit (l : List UInt8) (hs : l.length ≤ maxLen) (w : World) :
    Calls Try.prog 20 #[.string ⟨l.toArray⟩, .func (.func 27) #[] #[]] w fun e w' => e = .returned (.string ⟨(Lx.hd Lx.digit l).toArray⟩) ∧ Below w.heap.size w w' :=
  lexhead Lx.digit 27 (fun args w => by simp [go_sem]) lexdigit_any plainly_digit l hs w
theorem head_blank (l : List UInt8) (hs : l.length ≤ maxLen) (w : World) :
    Calls Try.prog 20 #[.string ⟨l.toArray⟩, .func (.func 29) #[] #[]] w fun e w' => e = .returned (.string ⟨(Lx.hd Lx.blank l).toArray⟩) ∧ Below w.heap.size w w' :=
  lexhead Lx.blank 29 (fun args w => by simp [go_sem]) lexblank_any plainly_blank l hs w
theorem head_other (l : List UInt8) (hs : l.length ≤ maxLen) (w : World) :
    Calls Try.prog 20 #[.string ⟨l.toArray⟩, .func (.func 30) #[] #[]] w fun e w' => e = .returned (.string ⟨(Lx.hd Lx.other l).toArray⟩) ∧ Below w.heap.size w w' :=
  lexhead Lx.other 30 (fun args w => by simp [go_sem]) lexother_any plainly_other l hs w
end Go.Proofs.Ytjgklpjmbogimaa
