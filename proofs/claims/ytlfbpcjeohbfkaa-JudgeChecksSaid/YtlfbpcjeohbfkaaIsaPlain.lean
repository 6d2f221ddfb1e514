/-
  What the package isa says of instructions and bytes, in plain Lean. No program in sight.
-/
namespace Go.Proofs.Ytlfbpcjeohbfkaa.Ia
abbrev Bs := List UInt8
structure Ins where
  op : Int
  n : Int
def nil : Ins := ⟨0, 0⟩
def form (op : Int) : Nat := if op = 1 then 4 else if op = 10 ∨ op = 11 then 2 else if 1 < op ∧ op < 10 then 1 else 0
def most (op : Int) : Int := if op = 8 then 2 else if op = 9 then 16 else if op = 10 ∨ op = 11 then 65535 else 255
/-- what is wrong of an instruction -/
def right (i : Ins) : Int :=
  if form i.op = 0 then 9
  else if form i.op = 4 then 0
  else if (i.op = 8 ∨ i.op = 9) ∧ (i.n < 1 ∨ most i.op < i.n) then 9
  else if i.n < 0 ∨ most i.op < i.n then 10
  else 0
def le : Nat → Nat → Bs
  | 0, _ => []
  | w + 1, n => UInt8.ofNat (n % 256) :: le w (n / 256)
def unle : Bs → Nat
  | [] => 0
  | c :: r => c.toNat + 256 * unle r
def plainN (n : Int) : Nat := (n % 4294967296).toNat
def signedN (u : Nat) : Int := if u < 2147483648 then (u : Int) else (u : Int) - 4294967296
def bytesOf (i : Ins) : Bs := UInt8.ofNat i.op.toNat :: le (form i.op) (plainN i.n)
def size (i : Ins) : Nat := if right i = 0 then 1 + form i.op else 0
/-- the instruction with which bytes begin, how many bytes it has, and the error -/
def readB : Bs → Ins × Nat × Int
  | [] => (nil, 0, 2)
  | c :: r =>
    let w := form c.toNat
    if w = 0 then (nil, 0, 9)
    else if r.length < w then (nil, 0, 2)
    else
      let i : Ins := ⟨c.toNat, signedN (unle (r.take w))⟩
      if right i ≠ 0 then (nil, 0, right i) else (i, 1 + w, 0)
def encode : List Ins → Bs
  | [] => []
  | i :: r => bytesOf i ++ encode r
/-- the first that is wrong -/
def wrong : List Ins → Int
  | [] => 0
  | i :: r => if right i ≠ 0 then right i else wrong r
/-- what is left of N bytes, k instructions being read -/
def decF (N : Nat) : Nat → Nat → Bs → List Ins × Int × Int
  | 0, _, _ => ([], 0, 0)
  | f + 1, k, l =>
    if l = [] then ([], 0, 0)
    else if k = 600 then ([], 3, (N : Int) - l.length)
    else
      let (i, n, e) := readB l
      if e ≠ 0 then ([], e, (N : Int) - l.length)
      else
        let (r, g, q) := decF N f (k + 1) (l.drop n)
        if g ≠ 0 then ([], g, q) else (i :: r, 0, 0)
def decode (b : Bs) : List Ins × Int × Int := decF b.length (b.length + 1) 0 b
theorem le_length : ∀ w n, (le w n).length = w
  | 0, _ => rfl
  | w + 1, n => by simp [le, le_length w]
theorem unle_le : ∀ w n, unle (le w n) = n % 256 ^ w
  | 0, n => by simp [le, unle, Nat.mod_one]
  | w + 1, n => by
    simp only [le, unle, unle_le w]
    have e : 256 ^ (w + 1) = 256 * 256 ^ w := by rw [Nat.pow_succ, Nat.mul_comm]
    have : n % 256 % 2 ^ 8 = n % 256 := by omega
    rw [UInt8.toNat_ofNat', this, e, Nat.mod_mul]
theorem le_unle : ∀ l : Bs, le l.length (unle l) = l
  | [] => rfl
  | c :: r => by
    have hc := c.toNat_lt
    have h1 : (c.toNat + 256 * unle r) % 256 = c.toNat := by omega
    have h2 : (c.toNat + 256 * unle r) / 256 = unle r := by omega
    simp only [List.length_cons, le, unle, h1, h2, le_unle r]
    congr 1
    exact UInt8.ofNat_toNat
theorem unle_lt : ∀ l : Bs, unle l < 256 ^ l.length
  | [] => by simp [unle]
  | c :: r => by
    have hc := c.toNat_lt
    have := unle_lt r
    simp only [List.length_cons, unle, Nat.pow_succ]
    omega
theorem form_le (op : Int) : form op = 0 ∨ form op = 1 ∨ form op = 2 ∨ form op = 4 := by
  unfold form; repeat' split
  all_goals simp
theorem form_op {op : Int} (h : form op ≠ 0) : 1 ≤ op ∧ op ≤ 11 := by
  unfold form at h
  repeat' split at h
  all_goals omega
theorem right_form {i : Ins} (h : right i = 0) : form i.op ≠ 0 := by
  intro h0
  unfold right at h
  rw [if_pos h0] at h
  omega
theorem right_fits {i : Ins} (h : right i = 0) (h1 : -2147483648 ≤ i.n) (h2 : i.n ≤ 2147483647) : signedN (plainN i.n % 256 ^ form i.op) = i.n := by
  unfold right at h
  unfold form most at h
  unfold form signedN plainN
  repeat' split at h
  all_goals (try omega)
  all_goals (repeat' split)
  all_goals (try omega)
theorem signed_range {u : Nat} (h : u < 4294967296) : -2147483648 ≤ signedN u ∧ signedN u ≤ 2147483647 := by
  unfold signedN; split <;> omega
theorem plain_signed {u : Nat} (h : u < 4294967296) : plainN (signedN u) = u := by
  unfold signedN plainN; split <;> omega
theorem ofNat_op {c : UInt8} : UInt8.ofNat ((c.toNat : Int)).toNat = c := by
  rw [Int.toNat_natCast]; exact UInt8.ofNat_toNat
/-- what is laid down is read as it was -/
theorem readB_bytes {i : Ins} (h : right i = 0) (h1 : -2147483648 ≤ i.n) (h2 : i.n ≤ 2147483647) (r : Bs) : readB (bytesOf i ++ r) = (i, size i, 0) := by
  have hf := right_form h
  have ho := form_op hf
  have hc : ((UInt8.ofNat i.op.toNat).toNat : Int) = i.op := by
    rw [UInt8.toNat_ofNat']; omega
  unfold bytesOf
  simp only [List.cons_append, readB, hc]
  have hl : ¬ (le (form i.op) (plainN i.n) ++ r).length < form i.op := by rw [List.length_append, le_length]; omega
  have ht : (le (form i.op) (plainN i.n) ++ r).take (form i.op) = le (form i.op) (plainN i.n) := by
    rw [List.take_append_of_le_length (by rw [le_length]; omega), List.take_of_length_le (by rw [le_length]; omega)]
  rw [if_neg hf, if_neg hl, ht, unle_le, right_fits h h1 h2]
  have e : (⟨i.op, i.n⟩ : Ins) = i := rfl
  rw [e, if_neg (fun hh => hh h)]
  unfold size
  rw [if_pos h]
/-- what is read was laid down so -/
theorem readB_only {l : Bs} {i : Ins} {n : Nat} (h : readB l = (i, n, 0)) : right i = 0 ∧ l = bytesOf i ++ l.drop n ∧ n = size i ∧ 0 < n ∧ n ≤ l.length ∧ -2147483648 ≤ i.n ∧ i.n ≤ 2147483647 := by
  cases l with
  | nil => simp [readB] at h
  | cons c r =>
    simp only [readB] at h
    by_cases h0 : form c.toNat = 0
    · rw [if_pos h0] at h; simp at h
    · rw [if_neg h0] at h
      by_cases h1 : r.length < form c.toNat
      · rw [if_pos h1] at h; simp at h
      · rw [if_neg h1] at h
        by_cases h2 : right ⟨c.toNat, signedN (unle (r.take (form c.toNat)))⟩ = 0
        · rw [if_neg (fun e => e h2)] at h
          simp only [Prod.mk.injEq, and_true] at h
          obtain ⟨rfl, rfl⟩ := h
          have hlen : (r.take (form c.toNat)).length = form c.toNat := by rw [List.length_take]; omega
          have hlt := unle_lt (r.take (form c.toNat))
          rw [hlen] at hlt
          have hlt' : unle (r.take (form c.toNat)) < 4294967296 := by
            have hp : 256 ^ form (c.toNat : Int) ≤ 4294967296 := by
              rcases form_le c.toNat with e | e | e | e <;> rw [e] <;> decide
            omega
          have hs := signed_range hlt'
          refine ⟨h2, ?_, ?_, by omega, by simp only [List.length_cons]; omega, hs.1, hs.2⟩
          · unfold bytesOf
            simp only
            have hle := le_unle (r.take (form c.toNat))
            rw [hlen] at hle
            rw [ofNat_op, plain_signed hlt', hle]
            simp [Nat.add_comm 1]
          · unfold size
            rw [if_pos h2]
        · rw [if_pos h2] at h
          simp only [Prod.mk.injEq] at h
          exact absurd h.2.2 h2
theorem readB_len {l : Bs} (h : (readB l).2.2 = 0) : 0 < (readB l).2.1 ∧ (readB l).2.1 ≤ l.length := by
  have := readB_only (l := l) (i := (readB l).1) (n := (readB l).2.1) (by rw [← h])
  exact ⟨this.2.2.2.1, this.2.2.2.2.1⟩
theorem decF_fuel (N : Nat) : ∀ (f g k : Nat) (l : Bs), l.length < f → l.length < g → decF N f k l = decF N g k l
  | 0, _, _, l, h, _ => by omega
  | _ + 1, 0, _, l, _, h => by omega
  | f + 1, g + 1, k, l, h1, h2 => by
    unfold decF
    by_cases hl : l = []
    · rw [if_pos hl, if_pos hl]
    · rw [if_neg hl, if_neg hl]
      by_cases hk : k = 600
      · rw [if_pos hk, if_pos hk]
      · rw [if_neg hk, if_neg hk]
        simp only
        by_cases he : (readB l).2.2 = 0
        · have := readB_len he
          rw [decF_fuel N f g (k + 1) (l.drop (readB l).2.1) (by rw [List.length_drop]; omega) (by rw [List.length_drop]; omega)]
        · rw [if_pos he, if_pos he]
def decL (N k : Nat) (l : Bs) : List Ins × Int × Int := decF N (l.length + 1) k l
theorem decL_nil (N k : Nat) : decL N k [] = ([], 0, 0) := rfl
theorem decL_big (N : Nat) {l : Bs} (hl : l ≠ []) : decL N 600 l = ([], 3, (N : Int) - l.length) := by
  unfold decL decF
  rw [if_neg hl, if_pos rfl]
theorem decL_bad (N : Nat) {k : Nat} {l : Bs} (hl : l ≠ []) (hk : k ≠ 600) (he : (readB l).2.2 ≠ 0) : decL N k l = ([], (readB l).2.2, (N : Int) - l.length) := by
  unfold decL decF
  rw [if_neg hl, if_neg hk]
  simp only
  rw [if_pos he]
theorem decL_good (N : Nat) {k : Nat} {l : Bs} (hl : l ≠ []) (hk : k ≠ 600) (he : (readB l).2.2 = 0) :
    decL N k l = if (decL N (k + 1) (l.drop (readB l).2.1)).2.1 ≠ 0 then ([], (decL N (k + 1) (l.drop (readB l).2.1)).2.1, (decL N (k + 1) (l.drop (readB l).2.1)).2.2)
      else ((readB l).1 :: (decL N (k + 1) (l.drop (readB l).2.1)).1, 0, 0) := by
  have hr := readB_len he
  have hf : decF N l.length (k + 1) (l.drop (readB l).2.1) = decL N (k + 1) (l.drop (readB l).2.1) := decF_fuel N _ _ _ _ (by rw [List.length_drop]; omega) (by omega)
  show decF N (l.length + 1) k l = _
  unfold decF
  rw [if_neg hl, if_neg hk]
  simp only
  rw [if_neg (fun h => h he), hf]
end Go.Proofs.Ytlfbpcjeohbfkaa.Ia
