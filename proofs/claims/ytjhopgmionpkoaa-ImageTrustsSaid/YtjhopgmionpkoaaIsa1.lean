/-
  What the package isa says of instructions and bytes, in plain Lean. No program in sight.
  The small functions of the package isa and of its reference: how many bytes a number has, how great it may be.
  What is wrong of an instruction, by the package isa and by its reference.
  Instructions in memory: their cells, slices of them, what they read as; the reference's Same, Lent and Spoil.
-/
import Derived.Test.YtjhopgmionpkoaaRows
import Derived.WalkKit
import Derived.WalkSpells
import Derived.WalkLawsBesides
import Derived.Handy
import Derived.Lib.Hide
import Derived.LoopTactic
import Derived.BigQuiet
import Derived.Deep.QuietTactic
import Derived.Test.YtjhopgmionpkoaaMem
namespace Go.Proofs.Ytjhopgmionpkoaa.Ia
set_option maxRecDepth 20000
abbrev Bs := List UInt8
structure Ins where
  op : Int
  n : Int
def nil : Ins := ⟨0, 0⟩
def form (op : Int) : Nat := if op = 1 then 4 else if op = 10 ∨ op = 11 then 2 else if 1 < op ∧ op < 10 then 1 else 0
def most (op : Int) : Int := if op = 8 then 2 else if op = 9 then 16 else if op = 10 ∨ op = 11 then 65535 else 255
/-- what is wrong of an instruction -/
def right (i : Ins) : Int :=
  if form i.op = 0 then 9
  else if form i.op = 4 then 0
  else if (i.op = 8 ∨ i.op = 9) ∧ (i.n < 1 ∨ most i.op < i.n) then 9
  else if i.n < 0 ∨ most i.op < i.n then 10
  else 0
def le : Nat → Nat → Bs
  | 0, _ => []
  | w + 1, n => UInt8.ofNat (n % 256) :: le w (n / 256)
def unle : Bs → Nat
  | [] => 0
  | c :: r => c.toNat + 256 * unle r
def plainN (n : Int) : Nat := (n % 4294967296).toNat
def signedN (u : Nat) : Int := if u < 2147483648 then (u : Int) else (u : Int) - 4294967296
def bytesOf (i : Ins) : Bs := UInt8.ofNat i.op.toNat :: le (form i.op) (plainN i.n)
def size (i : Ins) : Nat := if right i = 0 then 1 + form i.op else 0
/-- the instruction with which bytes begin, how many bytes it has, and the error -/
def readB : Bs → Ins × Nat × Int
  | [] => (nil, 0, 2)
  | c :: r =>
    let w := form c.toNat
    if w = 0 then (nil, 0, 9)
    else if r.length < w then (nil, 0, 2)
    else
      let i : Ins := ⟨c.toNat, signedN (unle (r.take w))⟩
      if right i ≠ 0 then (nil, 0, right i) else (i, 1 + w, 0)
def encode : List Ins → Bs
  | [] => []
  | i :: r => bytesOf i ++ encode r
/-- the first that is wrong -/
def wrong : List Ins → Int
  | [] => 0
  | i :: r => if right i ≠ 0 then right i else wrong r
/-- what is left of N bytes, k instructions being read -/
def decF (N : Nat) : Nat → Nat → Bs → List Ins × Int × Int
  | 0, _, _ => ([], 0, 0)
  | f + 1, k, l =>
    if l = [] then ([], 0, 0)
    else if k = 600 then ([], 3, (N : Int) - l.length)
    else
      let (i, n, e) := readB l
      if e ≠ 0 then ([], e, (N : Int) - l.length)
      else
        let (r, g, q) := decF N f (k + 1) (l.drop n)
        if g ≠ 0 then ([], g, q) else (i :: r, 0, 0)
def decode (b : Bs) : List Ins × Int × Int := decF b.length (b.length + 1) 0 b
theorem le_length : ∀ w n, (le w n).length = w
  | 0, _ => rfl
  | w + 1, n => by simp [le, le_length w]
theorem unle_le : ∀ w n, unle (le w n) = n % 256 ^ w
  | 0, n => by simp [le, unle, Nat.mod_one]
  | w + 1, n => by
    simp only [le, unle, unle_le w]
    have e : 256 ^ (w + 1) = 256 * 256 ^ w := by rw [Nat.pow_succ, Nat.mul_comm]
    have : n % 256 % 2 ^ 8 = n % 256 := by omega
    rw [UInt8.toNat_ofNat', this, e, Nat.mod_mul]
theorem le_unle : ∀ l : Bs, le l.length (unle l) = l
  | [] => rfl
  | c :: r => by
    have hc := c.toNat_lt
    have h1 : (c.toNat + 256 * unle r) % 256 = c.toNat := by omega
    have h2 : (c.toNat + 256 * unle r) / 256 = unle r := by omega
    simp only [List.length_cons, le, unle, h1, h2, le_unle r]
    congr 1
    exact UInt8.ofNat_toNat
theorem unle_lt : ∀ l : Bs, unle l < 256 ^ l.length
  | [] => by simp [unle]
  | c :: r => by
    have hc := c.toNat_lt
    have := unle_lt r
    simp only [List.length_cons, unle, Nat.pow_succ]
    omega
theorem form_le (op : Int) : form op = 0 ∨ form op = 1 ∨ form op = 2 ∨ form op = 4 := by
  unfold form; repeat' split
  all_goals simp
theorem form_op {op : Int} (h : form op ≠ 0) : 1 ≤ op ∧ op ≤ 11 := by
  unfold form at h
  repeat' split at h
  all_goals omega
theorem right_form {i : Ins} (h : right i = 0) : form i.op ≠ 0 := by
  intro h0
  unfold right at h
  rw [if_pos h0] at h
  omega
theorem right_fits {i : Ins} (h : right i = 0) (h1 : -2147483648 ≤ i.n) (h2 : i.n ≤ 2147483647) : signedN (plainN i.n % 256 ^ form i.op) = i.n := by
  unfold right at h
  unfold form most at h
  unfold form signedN plainN
  repeat' split at h
  all_goals (try omega)
  all_goals (repeat' split)
  all_goals (try omega)
theorem signed_range {u : Nat} (h : u < 4294967296) : -2147483648 ≤ signedN u ∧ signedN u ≤ 2147483647 := by
  unfold signedN; split <;> omega
theorem plain_signed {u : Nat} (h : u < 4294967296) : plainN (signedN u) = u := by
  unfold signedN plainN; split <;> omega
theorem ofNat_op {c : UInt8} : UInt8.ofNat ((c.toNat : Int)).toNat = c := by
  rw [Int.toNat_natCast]; exact UInt8.ofNat_toNat
/-- what is laid down is read as it was -/
theorem readB_bytes {i : Ins} (h : right i = 0) (h1 : -2147483648 ≤ i.n) (h2 : i.n ≤ 2147483647) (r : Bs) : readB (bytesOf i ++ r) = (i, size i, 0) := by
  have hf := right_form h
  have ho := form_op hf
  have hc : ((UInt8.ofNat i.op.toNat).toNat : Int) = i.op := by
    rw [UInt8.toNat_ofNat']; omega
  unfold bytesOf
  simp only [List.cons_append, readB, hc]
  have hl : ¬ (le (form i.op) (plainN i.n) ++ r).length < form i.op := by rw [List.length_append, le_length]; omega
  have ht : (le (form i.op) (plainN i.n) ++ r).take (form i.op) = le (form i.op) (plainN i.n) := by
    rw [List.take_append_of_le_length (by rw [le_length]; omega), List.take_of_length_le (by rw [le_length]; omega)]
  rw [if_neg hf, if_neg hl, ht, unle_le, right_fits h h1 h2]
  have e : (⟨i.op, i.n⟩ : Ins) = i := rfl
  rw [e, if_neg (fun hh => hh h)]
  unfold size
  rw [if_pos h]
/-- what is read was laid down so -/
theorem readB_only {l : Bs} {i : Ins} {n : Nat} (h : readB l = (i, n, 0)) : right i = 0 ∧ l = bytesOf i ++ l.drop n ∧ n = size i ∧ 0 < n ∧ n ≤ l.length ∧ -2147483648 ≤ i.n ∧ i.n ≤ 2147483647 := by
  cases l with
  | nil => simp [readB] at h
  | cons c r =>
    simp only [readB] at h
    by_cases h0 : form c.toNat = 0
    · rw [if_pos h0] at h; simp at h
    · rw [if_neg h0] at h
      by_cases h1 : r.length < form c.toNat
      · rw [if_pos h1] at h; simp at h
      · rw [if_neg h1] at h
        by_cases h2 : right ⟨c.toNat, signedN (unle (r.take (form c.toNat)))⟩ = 0
        · rw [if_neg (fun e => e h2)] at h
          simp only [Prod.mk.injEq, and_true] at h
          obtain ⟨rfl, rfl⟩ := h
          have hlen : (r.take (form c.toNat)).length = form c.toNat := by rw [List.length_take]; omega
          have hlt := unle_lt (r.take (form c.toNat))
          rw [hlen] at hlt
          have hlt' : unle (r.take (form c.toNat)) < 4294967296 := by
            have hp : 256 ^ form (c.toNat : Int) ≤ 4294967296 := by
              rcases form_le c.toNat with e | e | e | e <;> rw [e] <;> decide
            omega
          have hs := signed_range hlt'
          refine ⟨h2, ?_, ?_, by omega, by simp only [List.length_cons]; omega, hs.1, hs.2⟩
          · unfold bytesOf
            simp only
            have hle := le_unle (r.take (form c.toNat))
            rw [hlen] at hle
            rw [ofNat_op, plain_signed hlt', hle]
            simp [Nat.add_comm 1]
          · unfold size
            rw [if_pos h2]
        · rw [if_pos h2] at h
          simp only [Prod.mk.injEq] at h
          exact absurd h.2.2 h2
theorem readB_len {l : Bs} (h : (readB l).2.2 = 0) : 0 < (readB l).2.1 ∧ (readB l).2.1 ≤ l.length := by
  have := readB_only (l := l) (i := (readB l).1) (n := (readB l).2.1) (by rw [← h])
  exact ⟨this.2.2.2.1, this.2.2.2.2.1⟩
theorem decF_fuel (N : Nat) : ∀ (f g k : Nat) (l : Bs), l.length < f → l.length < g → decF N f k l = decF N g k l
  | 0, _, _, l, h, _ => by omega
  | _ + 1, 0, _, l, _, h => by omega
  | f + 1, g + 1, k, l, h1, h2 => by
    unfold decF
    by_cases hl : l = []
    · rw [if_pos hl, if_pos hl]
    · rw [if_neg hl, if_neg hl]
      by_cases hk : k = 600
      · rw [if_pos hk, if_pos hk]
      · rw [if_neg hk, if_neg hk]
        simp only
        by_cases he : (readB l).2.2 = 0
        · have := readB_len he
          rw [decF_fuel N f g (k + 1) (l.drop (readB l).2.1) (by rw [List.length_drop]; omega) (by rw [List.length_drop]; omega)]
        · rw [if_pos he, if_pos he]
def decL (N k : Nat) (l : Bs) : List Ins × Int × Int := decF N (l.length + 1) k l
theorem decL_nil (N k : Nat) : decL N k [] = ([], 0, 0) := rfl
theorem decL_big (N : Nat) {l : Bs} (hl : l ≠ []) : decL N 600 l = ([], 3, (N : Int) - l.length) := by
  unfold decL decF
  rw [if_neg hl, if_pos rfl]
theorem decL_bad (N : Nat) {k : Nat} {l : Bs} (hl : l ≠ []) (hk : k ≠ 600) (he : (readB l).2.2 ≠ 0) : decL N k l = ([], (readB l).2.2, (N : Int) - l.length) := by
  unfold decL decF
  rw [if_neg hl, if_neg hk]
  simp only
  rw [if_pos he]
theorem decL_good (N : Nat) {k : Nat} {l : Bs} (hl : l ≠ []) (hk : k ≠ 600) (he : (readB l).2.2 = 0) :
    decL N k l = if (decL N (k + 1) (l.drop (readB l).2.1)).2.1 ≠ 0 then ([], (decL N (k + 1) (l.drop (readB l).2.1)).2.1, (decL N (k + 1) (l.drop (readB l).2.1)).2.2)
      else ((readB l).1 :: (decL N (k + 1) (l.drop (readB l).2.1)).1, 0, 0) := by
  have hr := readB_len he
  have hf : decF N l.length (k + 1) (l.drop (readB l).2.1) = decL N (k + 1) (l.drop (readB l).2.1) := decF_fuel N _ _ _ _ (by rw [List.length_drop]; omega) (by omega)
  show decF N (l.length + 1) k l = _
  unfold decF
  rw [if_neg hl, if_neg hk]
  simp only
  rw [if_neg (fun h => h he), hf]
end Go.Proofs.Ytjhopgmionpkoaa.Ia
namespace Go.Proofs.Ytjhopgmionpkoaa
set_option maxRecDepth 20000
open Go.RowKit

theorem ret_int {k : IntKind} {a b : Int} (h : b = a) : Ending.returned (.int k a) = .returned (.int k b) := by rw [h]
theorem isaform (op : Int) (w : World) :
    Calls Try.prog 93 #[.int .i64 op] w fun e w' => e = .returned (.int .i64 (Ia.form op)) ∧ w = w' := by
  unfold Ia.form
  by_cases h1 : op = 1
  · subst h1
    go_enter Try.func93, Try.ntmps93
    go_wp2_with fail
    go_ret
    exact ⟨rfl, rfl⟩
  rw [if_neg h1]
  by_cases h2 : op = 10
  · subst h2
    go_enter Try.func93, Try.ntmps93
    go_wp2_with fail
    go_ret
    exact ⟨rfl, rfl⟩
  by_cases h3 : op = 11
  · subst h3
    go_enter Try.func93, Try.ntmps93
    go_wp2_with fail
    go_ret
    exact ⟨rfl, rfl⟩
  rw [if_neg (by omega)]
  have b1 : (op == 1) = false := by simpa using h1
  have b2 : (op == 10) = false := by simpa using h2
  have b3 : (op == 11) = false := by simpa using h3
  by_cases h4 : 1 < op
  · by_cases h5 : op < 10
    · rw [if_pos ⟨h4, h5⟩]
      clear h1 h2 h3
      go_enter Try.func93, Try.ntmps93
      go_wp2_with fail
      go_ret
      exact ⟨rfl, rfl⟩
    · rw [if_neg (by omega)]
      clear h1 h2 h3
      go_enter Try.func93, Try.ntmps93
      go_wp2_with fail
      go_ret
      exact ⟨rfl, rfl⟩
  · rw [if_neg (by omega)]
    clear h1 h2 h3
    go_enter Try.func93, Try.ntmps93
    go_wp2_with fail
    go_ret
    exact ⟨rfl, rfl⟩
theorem isamost (op : Int) (w : World) :
    Calls Try.prog 94 #[.int .i64 op] w fun e w' => e = .returned (.int .i32 (Ia.most op)) ∧ w = w' := by
  unfold Ia.most
  by_cases h1 : op = 8
  · subst h1
    go_enter Try.func94, Try.ntmps94
    go_wp2_with fail
    go_ret
    exact ⟨rfl, rfl⟩
  by_cases h2 : op = 9
  · subst h2
    go_enter Try.func94, Try.ntmps94
    go_wp2_with fail
    go_ret
    exact ⟨rfl, rfl⟩
  by_cases h3 : op = 10
  · subst h3
    go_enter Try.func94, Try.ntmps94
    go_wp2_with fail
    go_ret
    exact ⟨rfl, rfl⟩
  by_cases h4 : op = 11
  · subst h4
    go_enter Try.func94, Try.ntmps94
    go_wp2_with fail
    go_ret
    exact ⟨rfl, rfl⟩
  rw [if_neg h1, if_neg h2, if_neg (by omega)]
  have b1 : (op == 8) = false := by simpa using h1
  have b2 : (op == 9) = false := by simpa using h2
  have b3 : (op == 10) = false := by simpa using h3
  have b4 : (op == 11) = false := by simpa using h4
  clear h1 h2 h3 h4
  go_enter Try.func94, Try.ntmps94
  go_wp2_with fail
  go_ret
  exact ⟨rfl, rfl⟩
set_option maxHeartbeats 1000000 in
theorem refwidth (op : Int) (w : World) :
    Calls Try.prog 85 #[.int .i64 op] w fun e w' => e = .returned (.int .i64 (Ia.form op)) ∧ w = w' := by
  by_cases h : 1 ≤ op ∧ op ≤ 11
  · rcases (show op = 1 ∨ op = 2 ∨ op = 3 ∨ op = 4 ∨ op = 5 ∨ op = 6 ∨ op = 7 ∨ op = 8 ∨ op = 9 ∨ op = 10 ∨ op = 11 by omega) with rfl | rfl | rfl | rfl | rfl | rfl | rfl | rfl | rfl | rfl | rfl
    all_goals
      go_enter Try.func85, Try.ntmps85
      go_wp2_with fail
      go_ret
      exact ⟨rfl, rfl⟩
  · have hz : Ia.form op = 0 := by unfold Ia.form; rw [if_neg (by omega), if_neg (by omega), if_neg (by omega)]
    rw [hz]
    have b1 : (op == 1) = false := by simp; omega
    have b2 : (op == 2) = false := by simp; omega
    have b3 : (op == 3) = false := by simp; omega
    have b4 : (op == 4) = false := by simp; omega
    have b5 : (op == 5) = false := by simp; omega
    have b6 : (op == 6) = false := by simp; omega
    have b7 : (op == 7) = false := by simp; omega
    have b8 : (op == 8) = false := by simp; omega
    have b9 : (op == 9) = false := by simp; omega
    have b10 : (op == 10) = false := by simp; omega
    have b11 : (op == 11) = false := by simp; omega
    clear h hz
    go_enter Try.func85, Try.ntmps85
    go_wp2_with fail
    go_ret
    exact ⟨rfl, rfl⟩
theorem octplain (n : Int) (_h1 : -2147483648 ≤ n) (_h2 : n ≤ 2147483647) (w : World) :
    Calls Try.prog 49 #[.int .i32 n] w fun e w' => e = .returned (.int .u32 (Ia.plainN n)) ∧ w = w' := by
  go_enter Try.func49, Try.ntmps49
  go_wp2_with fail
  go_ret
  refine ⟨ret_int ?_, rfl⟩
  unfold Ia.plainN
  omega
theorem octsigned (u : Nat) (h : u < 4294967296) (w : World) :
    Calls Try.prog 67 #[.int .u32 u] w fun e w' => e = .returned (.int .i32 (Ia.signedN u)) ∧ w = w' := by
  go_enter Try.func67, Try.ntmps67
  go_wp2_with fail
  go_ret
  refine ⟨ret_int ?_, rfl⟩
  unfold Ia.signedN
  unfold wrap32
  split <;> omega
end Go.Proofs.Ytjhopgmionpkoaa
namespace Go.Proofs.Ytjhopgmionpkoaa
set_option maxRecDepth 20000
open Go.RowKit

theorem same_right {P : Program} {f : FuncId} {args : Array Value} {w : World} {v : Value} (h : Calls P f args w fun e w' => e = .returned v ∧ w = w') : Calls P f args w fun e w' => e = .returned v ∧ w' = w :=
  h.mono fun _ _ ⟨a, b⟩ => ⟨a, b.symm⟩
theorem quiet_add_same {P : Program} {f : FuncId} {args : Array Value} {w : World} {a n : Nat} {v : Value}
    (h : Calls P f args (w.drewN (a + n)) fun e w' => e = .returned v ∧ w' = w.drewN (a + n)) :
    Calls P f args (w.drewN (a + n)) fun e w'' => e = .returned v ∧ ∃ m, w'' = w.drewN (a + m) :=
  h.mono fun _ _ ⟨he, hm⟩ => ⟨he, n, hm⟩
set_option maxHeartbeats 2000000 in
theorem isaright_none (op n : Int) (hf : Ia.form op = 0) (w : World) :
    Calls Try.prog 76 #[.agg #[.int .i64 op, .int .i32 n]] w fun e w' => e = .returned (.int .i64 9) ∧ Below w.heap.size w w' := by
  have HF := Lib.hid hf
  clear hf
  go_enter Try.func76, Try.ntmps76
  go_wp2_with fail
  refine (isaform _ _).mono ?_
  rintro e w' ⟨rfl, rfl⟩
  rw [HF.out]
  go_wp2_with fail
  go_ret
  exact ⟨rfl, (Below.refl _ _).alloc (Nat.le_refl _) _⟩
set_option maxHeartbeats 2000000 in
theorem isaright_push (op n : Int) (hf : Ia.form op = 4) (w : World) :
    Calls Try.prog 76 #[.agg #[.int .i64 op, .int .i32 n]] w fun e w' => e = .returned (.int .i64 0) ∧ Below w.heap.size w w' := by
  have HF := Lib.hid hf
  clear hf
  go_enter Try.func76, Try.ntmps76
  go_wp2_with fail
  refine (isaform _ _).mono ?_
  rintro e w' ⟨rfl, rfl⟩
  rw [HF.out]
  go_wp2_with fail
  go_ret
  exact ⟨rfl, (Below.refl _ _).alloc (Nat.le_refl _) _⟩
set_option maxHeartbeats 4000000 in
theorem isaright_8lo (n : Int) (h : n < 1) (w : World) :
    Calls Try.prog 76 #[.agg #[.int .i64 8, .int .i32 n]] w fun e w' => e = .returned (.int .i64 9) ∧ Below w.heap.size w w' := by
  have hm : Ia.most 8 = 2 := by decide
  have HM := Lib.hid hm
  clear hm
  go_enter Try.func76, Try.ntmps76
  go_wp2_with fail
  refine (isaform _ _).mono ?_
  rintro e w' ⟨rfl, rfl⟩
  rw [show Ia.form 8 = 1 by decide]
  go_wp2_with fail
  go_quiet ((go_at_call 94; exact Calls.quiet_of_same (same_right (HM.out ▸ isamost 8 _))))
  go_wp2_with fail
  go_ret
  refine ⟨rfl, ?_⟩
  first | exact Mem.below_drewN ((Below.refl _ _).alloc (Nat.le_refl _) _) _ | exact Mem.below_drewN (Mem.below_drewN ((Below.refl _ _).alloc (Nat.le_refl _) _) _) _
set_option maxHeartbeats 4000000 in
theorem isaright_8hi (n : Int) (h1 : 1 ≤ n) (h : 2 < n) (w : World) :
    Calls Try.prog 76 #[.agg #[.int .i64 8, .int .i32 n]] w fun e w' => e = .returned (.int .i64 9) ∧ Below w.heap.size w w' := by
  have hm : Ia.most 8 = 2 := by decide
  have HM := Lib.hid hm
  clear hm
  go_enter Try.func76, Try.ntmps76
  go_wp2_with fail
  refine (isaform _ _).mono ?_
  rintro e w' ⟨rfl, rfl⟩
  rw [show Ia.form 8 = 1 by decide]
  go_wp2_with fail
  go_quiet ((go_at_call 94; exact Calls.quiet_of_same (same_right (HM.out ▸ isamost 8 _))))
  go_wp2_with fail
  go_ret
  refine ⟨rfl, ?_⟩
  first | exact Mem.below_drewN ((Below.refl _ _).alloc (Nat.le_refl _) _) _ | exact Mem.below_drewN (Mem.below_drewN ((Below.refl _ _).alloc (Nat.le_refl _) _) _) _
set_option maxHeartbeats 4000000 in
theorem isaright_8ok (n : Int) (h1 : 1 ≤ n) (h : n ≤ 2) (w : World) :
    Calls Try.prog 76 #[.agg #[.int .i64 8, .int .i32 n]] w fun e w' => e = .returned (.int .i64 0) ∧ Below w.heap.size w w' := by
  have hm : Ia.most 8 = 2 := by decide
  have HM := Lib.hid hm
  clear hm
  have d0 : decide (n < 0) = false := by simp; omega
  go_enter Try.func76, Try.ntmps76
  go_wp2_with fail
  refine (isaform _ _).mono ?_
  rintro e w' ⟨rfl, rfl⟩
  rw [show Ia.form 8 = 1 by decide]
  go_wp2_with fail
  go_quiet ((go_at_call 94; exact Calls.quiet_of_same (same_right (HM.out ▸ isamost 8 _))))
  go_wp2_with fail
  go_quiet ((go_at_call 94; exact quiet_add_same (same_right (HM.out ▸ isamost 8 _))))
  go_wp2_with fail
  go_ret
  refine ⟨rfl, ?_⟩
  first | exact Mem.below_drewN ((Below.refl _ _).alloc (Nat.le_refl _) _) _ | exact Mem.below_drewN (Mem.below_drewN ((Below.refl _ _).alloc (Nat.le_refl _) _) _) _
set_option maxHeartbeats 4000000 in
theorem isaright_9lo (n : Int) (h : n < 1) (w : World) :
    Calls Try.prog 76 #[.agg #[.int .i64 9, .int .i32 n]] w fun e w' => e = .returned (.int .i64 9) ∧ Below w.heap.size w w' := by
  have hm : Ia.most 9 = 16 := by decide
  have HM := Lib.hid hm
  clear hm
  go_enter Try.func76, Try.ntmps76
  go_wp2_with fail
  refine (isaform _ _).mono ?_
  rintro e w' ⟨rfl, rfl⟩
  rw [show Ia.form 9 = 1 by decide]
  go_wp2_with fail
  go_quiet ((go_at_call 94; exact Calls.quiet_of_same (same_right (HM.out ▸ isamost 9 _))))
  go_wp2_with fail
  go_ret
  refine ⟨rfl, ?_⟩
  first | exact Mem.below_drewN ((Below.refl _ _).alloc (Nat.le_refl _) _) _ | exact Mem.below_drewN (Mem.below_drewN ((Below.refl _ _).alloc (Nat.le_refl _) _) _) _
set_option maxHeartbeats 4000000 in
theorem isaright_9hi (n : Int) (h1 : 1 ≤ n) (h : 16 < n) (w : World) :
    Calls Try.prog 76 #[.agg #[.int .i64 9, .int .i32 n]] w fun e w' => e = .returned (.int .i64 9) ∧ Below w.heap.size w w' := by
  have hm : Ia.most 9 = 16 := by decide
  have HM := Lib.hid hm
  clear hm
  go_enter Try.func76, Try.ntmps76
  go_wp2_with fail
  refine (isaform _ _).mono ?_
  rintro e w' ⟨rfl, rfl⟩
  rw [show Ia.form 9 = 1 by decide]
  go_wp2_with fail
  go_quiet ((go_at_call 94; exact Calls.quiet_of_same (same_right (HM.out ▸ isamost 9 _))))
  go_wp2_with fail
  go_ret
  refine ⟨rfl, ?_⟩
  first | exact Mem.below_drewN ((Below.refl _ _).alloc (Nat.le_refl _) _) _ | exact Mem.below_drewN (Mem.below_drewN ((Below.refl _ _).alloc (Nat.le_refl _) _) _) _
set_option maxHeartbeats 4000000 in
theorem isaright_9ok (n : Int) (h1 : 1 ≤ n) (h : n ≤ 16) (w : World) :
    Calls Try.prog 76 #[.agg #[.int .i64 9, .int .i32 n]] w fun e w' => e = .returned (.int .i64 0) ∧ Below w.heap.size w w' := by
  have hm : Ia.most 9 = 16 := by decide
  have HM := Lib.hid hm
  clear hm
  have d0 : decide (n < 0) = false := by simp; omega
  go_enter Try.func76, Try.ntmps76
  go_wp2_with fail
  refine (isaform _ _).mono ?_
  rintro e w' ⟨rfl, rfl⟩
  rw [show Ia.form 9 = 1 by decide]
  go_wp2_with fail
  go_quiet ((go_at_call 94; exact Calls.quiet_of_same (same_right (HM.out ▸ isamost 9 _))))
  go_wp2_with fail
  go_quiet ((go_at_call 94; exact quiet_add_same (same_right (HM.out ▸ isamost 9 _))))
  go_wp2_with fail
  go_ret
  refine ⟨rfl, ?_⟩
  first | exact Mem.below_drewN ((Below.refl _ _).alloc (Nat.le_refl _) _) _ | exact Mem.below_drewN (Mem.below_drewN ((Below.refl _ _).alloc (Nat.le_refl _) _) _) _
set_option maxHeartbeats 4000000 in
theorem isaright_olo (op n m : Int) (f : Nat) (hf : Ia.form op = f) (hf0 : ((f : Int) == 0) = false) (hf4 : ((f : Int) == 4) = false) (h8 : (op == 8) = false) (h9 : (op == 9) = false) (hm : Ia.most op = m) (h : n < 0) (w : World) :
    Calls Try.prog 76 #[.agg #[.int .i64 op, .int .i32 n]] w fun e w' => e = .returned (.int .i64 10) ∧ Below w.heap.size w w' := by
  have HM := Lib.hid hm
  have HF := Lib.hid hf
  clear hm hf
  have d0 : decide (n < 0) = true := by simp; omega
  go_enter Try.func76, Try.ntmps76
  go_wp2_with fail
  refine (isaform _ _).mono ?_
  rintro e w' ⟨rfl, rfl⟩
  rw [HF.out]
  go_wp2_with fail
  go_quiet ((go_at_call 94; exact Calls.quiet_of_same (same_right (HM.out ▸ isamost op _))))
  go_wp2_with fail
  go_quiet ((go_at_call 94; exact quiet_add_same (same_right (HM.out ▸ isamost op _))))
  go_wp2_with fail
  go_ret
  refine ⟨rfl, ?_⟩
  first | exact Mem.below_drewN ((Below.refl _ _).alloc (Nat.le_refl _) _) _ | exact Mem.below_drewN (Mem.below_drewN ((Below.refl _ _).alloc (Nat.le_refl _) _) _) _
set_option maxHeartbeats 4000000 in
theorem isaright_ohi (op n m : Int) (f : Nat) (hf : Ia.form op = f) (hf0 : ((f : Int) == 0) = false) (hf4 : ((f : Int) == 4) = false) (h8 : (op == 8) = false) (h9 : (op == 9) = false) (hm : Ia.most op = m) (h1 : 0 ≤ n) (h : m < n) (w : World) :
    Calls Try.prog 76 #[.agg #[.int .i64 op, .int .i32 n]] w fun e w' => e = .returned (.int .i64 10) ∧ Below w.heap.size w w' := by
  have HM := Lib.hid hm
  have HF := Lib.hid hf
  clear hm hf
  have d0 : decide (n < 0) = false := by simp; omega
  go_enter Try.func76, Try.ntmps76
  go_wp2_with fail
  refine (isaform _ _).mono ?_
  rintro e w' ⟨rfl, rfl⟩
  rw [HF.out]
  go_wp2_with fail
  go_quiet ((go_at_call 94; exact Calls.quiet_of_same (same_right (HM.out ▸ isamost op _))))
  go_wp2_with fail
  go_quiet ((go_at_call 94; exact quiet_add_same (same_right (HM.out ▸ isamost op _))))
  go_wp2_with fail
  go_ret
  refine ⟨rfl, ?_⟩
  first | exact Mem.below_drewN ((Below.refl _ _).alloc (Nat.le_refl _) _) _ | exact Mem.below_drewN (Mem.below_drewN ((Below.refl _ _).alloc (Nat.le_refl _) _) _) _
set_option maxHeartbeats 4000000 in
theorem isaright_ook (op n m : Int) (f : Nat) (hf : Ia.form op = f) (hf0 : ((f : Int) == 0) = false) (hf4 : ((f : Int) == 4) = false) (h8 : (op == 8) = false) (h9 : (op == 9) = false) (hm : Ia.most op = m) (h1 : 0 ≤ n) (h : n ≤ m) (w : World) :
    Calls Try.prog 76 #[.agg #[.int .i64 op, .int .i32 n]] w fun e w' => e = .returned (.int .i64 0) ∧ Below w.heap.size w w' := by
  have HM := Lib.hid hm
  have HF := Lib.hid hf
  clear hm hf
  have d0 : decide (n < 0) = false := by simp; omega
  go_enter Try.func76, Try.ntmps76
  go_wp2_with fail
  refine (isaform _ _).mono ?_
  rintro e w' ⟨rfl, rfl⟩
  rw [HF.out]
  go_wp2_with fail
  go_quiet ((go_at_call 94; exact Calls.quiet_of_same (same_right (HM.out ▸ isamost op _))))
  go_wp2_with fail
  go_quiet ((go_at_call 94; exact quiet_add_same (same_right (HM.out ▸ isamost op _))))
  go_wp2_with fail
  go_ret
  refine ⟨rfl, ?_⟩
  first | exact Mem.below_drewN ((Below.refl _ _).alloc (Nat.le_refl _) _) _ | exact Mem.below_drewN (Mem.below_drewN ((Below.refl _ _).alloc (Nat.le_refl _) _) _) _
/-- what is wrong of an instruction, as the package isa tells it -/
theorem isaright (i : Ia.Ins) (w : World) :
    Calls Try.prog 76 #[.agg #[.int .i64 i.op, .int .i32 i.n]] w fun e w' => e = .returned (.int .i64 (Ia.right i)) ∧ Below w.heap.size w w' := by
  obtain ⟨op, n⟩ := i
  unfold Ia.right
  dsimp only
  by_cases f0 : Ia.form op = 0
  · rw [if_pos f0]; exact isaright_none op n f0 w
  rw [if_neg f0]
  by_cases f4 : Ia.form op = 4
  · rw [if_pos f4]; exact isaright_push op n f4 w
  rw [if_neg f4]
  by_cases h8 : op = 8
  · subst h8
    have hm : Ia.most 8 = 2 := by decide
    simp only [hm]
    by_cases h1 : n < 1
    · rw [if_pos ⟨.inl trivial, .inl h1⟩]; exact isaright_8lo n h1 w
    · by_cases h2 : 2 < n
      · rw [if_pos ⟨.inl trivial, .inr h2⟩]; exact isaright_8hi n (by omega) h2 w
      · rw [if_neg (by omega), if_neg (by omega)]; exact isaright_8ok n (by omega) (by omega) w
  by_cases h9 : op = 9
  · subst h9
    have hm : Ia.most 9 = 16 := by decide
    simp only [hm]
    by_cases h1 : n < 1
    · rw [if_pos ⟨.inr trivial, .inl h1⟩]; exact isaright_9lo n h1 w
    · by_cases h2 : 16 < n
      · rw [if_pos ⟨.inr trivial, .inr h2⟩]; exact isaright_9hi n (by omega) h2 w
      · rw [if_neg (by omega), if_neg (by omega)]; exact isaright_9ok n (by omega) (by omega) w
  rw [if_neg (fun h => by rcases h.1 with h | h; exact h8 h; exact h9 h)]
  have b0 : ((Ia.form op : Int) == 0) = false := by simp; omega
  have b4 : ((Ia.form op : Int) == 4) = false := by simp; omega
  have b8 : (op == 8) = false := by simpa using h8
  have b9 : (op == 9) = false := by simpa using h9
  by_cases h1 : n < 0
  · rw [if_pos (.inl h1)]; exact isaright_olo op n _ _ rfl b0 b4 b8 b9 rfl h1 w
  · by_cases h2 : Ia.most op < n
    · rw [if_pos (.inr h2)]; exact isaright_ohi op n _ _ rfl b0 b4 b8 b9 rfl (by omega) h2 w
    · rw [if_neg (by omega)]; exact isaright_ook op n _ _ rfl b0 b4 b8 b9 rfl (by omega) (by omega) w
end Go.Proofs.Ytjhopgmionpkoaa
namespace Go.Proofs.Ytjhopgmionpkoaa
set_option maxRecDepth 20000
open Go.RowKit Mem

def insCells : List Ia.Ins → List Value
  | [] => []
  | i :: r => .int .i64 i.op :: .int .i32 i.n :: insCells r
theorem insCells_length : ∀ l : List Ia.Ins, (insCells l).length = l.length * 2
  | [] => rfl
  | _ :: r => by simp only [insCells, List.length_cons, insCells_length r]; omega
theorem insCells_append : ∀ a b : List Ia.Ins, insCells (a ++ b) = insCells a ++ insCells b
  | [], _ => rfl
  | _ :: r, b => by simp only [List.cons_append, insCells, insCells_append r b]
theorem insCells_one : ∀ (l : List Ia.Ins), ∀ v ∈ insCells l, v.oneCell' = true
  | [], v, h => by simp [insCells] at h
  | i :: r, v, h => by
    simp only [insCells, List.mem_cons] at h
    rcases h with rfl | rfl | h
    · rfl
    · rfl
    · exact insCells_one r v h
theorem insCells_at : ∀ (l : List Ia.Ins) (k : Nat) (h : k < l.length), (insCells l)[k * 2]? = some (.int .i64 (l[k]'h).op) ∧ (insCells l)[k * 2 + 1]? = some (.int .i32 (l[k]'h).n)
  | [], k, h => by simp at h
  | i :: r, 0, h => ⟨rfl, rfl⟩
  | i :: r, k + 1, h => by
    have := insCells_at r k (by simpa using h)
    have e1 : (k + 1) * 2 = k * 2 + 1 + 1 := by omega
    rw [e1]
    simpa [insCells] using this
def insAgg (i : Ia.Ins) : Value := .agg #[.int .i64 i.op, .int .i32 i.n]
theorem infoIns : (Try.prog.info? 67).map (fun i => (i.zero, i.size, i.bytes)) = some (some (.agg #[.int .i64 0, .int .i32 0]), 2, 16) := by kernel_rfl
def InsAt (w : World) (A : Option Addr) (l : List Ia.Ins) : Prop := ∀ k (h : k < l.length), ∃ b off, A = some ⟨b, off, none⟩ ∧
  w.cell? ⟨b, off + k * 2, none⟩ = some (.int .i64 (l[k]'h).op) ∧ w.cell? ⟨b, off + k * 2 + 1, none⟩ = some (.int .i32 (l[k]'h).n)
abbrev ISrc (w : World) (A : Option Addr) (c : Nat) (l : List Ia.Ins) : Prop := Src w A l.length c (insCells l) 2
theorem ISrc.at_ {w : World} {A : Option Addr} {c : Nat} {l : List Ia.Ins} (h : ISrc w A c l) : InsAt w A l := by
  intro k hk
  rcases A with _ | ad
  · have := (h.none rfl).1; omega
  · have c0 := h.some ad rfl _ _ (insCells_at l k hk).1
    have c1 := h.some ad rfl _ _ (insCells_at l k hk).2
    obtain ⟨b, off, sp⟩ := ad
    have hsp : sp = none := by
      have h0 : ((⟨b, off, sp⟩ : Addr).add (0 * 2)).spot = none := World.cell?_spot (h.some _ rfl _ _ (insCells_at l 0 (by omega)).1)
      simpa [Addr.add] using h0
    subst hsp
    rw [add_plain] at c0 c1
    exact ⟨b, off, rfl, c0, by rw [← Nat.add_assoc] at c1; exact c1⟩
theorem InsAt.below {w w' : World} {A : Option Addr} {l : List Ia.Ins} {B : Nat} (h : InsAt w A l) (hb : Below B w w') (hB : w.heap.size ≤ B) : InsAt w' A l := by
  intro k hk
  obtain ⟨b, off, rfl, h0, h1⟩ := h k hk
  have hlt := World.block_lt_of_cell? _ _ h0
  exact ⟨b, off, rfl, (hb.cell (p := ⟨b, off + k * 2, none⟩) (Nat.lt_of_lt_of_le hlt hB)).trans h0, (hb.cell (p := ⟨b, off + k * 2 + 1, none⟩) (Nat.lt_of_lt_of_le hlt hB)).trans h1⟩
theorem InsAt.of_own {w : World} {base c : Nat} {A : Option Addr} {l : List Ia.Ins} {e : TypeId} (h : w.ownsRow base e 2 (.slice A l.length c) l.length (insCells l)) : InsAt w A l := ISrc.at_ (Src.of_own h)
theorem InsAt.drewN {w : World} {A : Option Addr} {l : List Ia.Ins} (h : InsAt w A l) (n : Nat) : InsAt (w.drewN n) A l := h
set_option maxHeartbeats 4000000 in
theorem insame (l : List Ia.Ins) (A A' : Option Addr) (c c' : Nat) (w : World) (hA : InsAt w A l) (hA' : InsAt w A' l) (hn : l.length ≤ 4611686018427387904) :
    Calls Try.prog 36 #[.slice A l.length c, .slice A' l.length c'] w fun e w' => e = .returned (.bool true) ∧ ∃ n, w' = w.drewN n := by
  have HA := Lib.hid hA
  have HA' := Lib.hid hA'
  clear hA hA'
  have hne : ((l.length : Int) != l.length) = false := by simp
  go_enter Try.func36, Try.ntmps36
  go_wp2_with fail
  clear hne
  go_loopw [5] (fun i wr => ∃ (k n : Nat), k ≤ l.length ∧ i = .int .i64 k ∧ wr = w.drewN n) (fun i _ => l.length - (intOf i).toNat)
  case atStart => exact ⟨0, 0, Nat.zero_le _, rfl, rfl⟩
  case round =>
    obtain ⟨k, n, hk, rfl, rfl⟩ := hrel
    by_cases hlt : k < l.length
    · obtain ⟨b, off, rfl, c0, c1⟩ := HA.out k hlt
      obtain ⟨b', off', rfl, d0, d1⟩ := HA'.out k hlt
      have hr0 : (0 : Int) ≤ k := by omega
      have hr1 : (k : Int) < (l.length : Int) := by omega
      go_wp2_with fail
      go_quiet (fail)
      go_wp2_with fail
      go_roundw
      case rel => exact ⟨k + 1, _, by omega, by go_num, rfl⟩
      case measure => simp [intOf]; omega
    · obtain rfl : k = l.length := by omega
      go_wp2_with fail
      go_ret
      exact ⟨rfl, _, rfl⟩
set_option maxHeartbeats 4000000 in
theorem inspoil (l : List Ia.Ins) (v : Value) (base : Nat) (w : World) (hA : w.ownsRow base 67 2 v l.length (insCells l)) (hn : l.length ≤ 140737488351232) :
    Calls Try.prog 20 #[v] w fun e w' => (∃ r, e = .returned r) ∧ w.grownBy w' v.ownBlock := by
  obtain ⟨A, c, rfl⟩ := own_slice hA
  have HA : Hid (∃ g, 0 < l.length → A = some ⟨g, 0, none⟩) := by
    rcases hA.2 with ⟨_, h⟩ | ⟨g, cap, cur, hv, _⟩
    · exact ⟨0, fun h' => by omega⟩
    · injection hv with h1
      exact ⟨g, fun _ => h1⟩
  have HO := Lib.hid hA
  clear hA
  go_enter Try.func20, Try.ntmps20
  go_wp2_with fail
  go_loopw [2] (fun i wr => ∃ (k : Nat) (xs : List Value), k ≤ l.length ∧ i = .int .i64 k ∧ Hid (wr.ownsRow base 67 2 (.slice A l.length c) l.length xs) ∧ Hid (w.grownBy wr (Value.ownBlock (.slice A l.length c)))) (fun i _ => l.length - (intOf i).toNat)
  case atStart => exact ⟨0, insCells l, Nat.zero_le _, rfl, HO, World.grownBy.refl _ _⟩
  case round =>
    obtain ⟨k, xs, hk, rfl, hO, hG⟩ := hrel
    by_cases hlt : k < l.length
    · obtain ⟨g, hg⟩ := HA.out
      obtain rfl := hg (by omega)
      clear hg
      have hx0 : xs[k * 2]? = some (xs[k * 2]'(by have := hO.out.1; omega)) := List.getElem?_eq_getElem _
      have hx1 : xs[k * 2 + 1]? = some (xs[k * 2 + 1]'(by have := hO.out.1; omega)) := List.getElem?_eq_getElem _
      have c0 := hO.out.cells (g := g) rfl _ _ hx0
      have c1 := hO.out.cells (g := g) rfl _ _ hx1
      rw [add_at] at c0 c1
      generalize xs[k * 2]'_ = y0 at c0
      generalize xs[k * 2 + 1]'_ = y1 at c1
      have f0 := hO.out.frozenAt (k * 2)
      have f1 := hO.out.frozenAt (k * 2 + 1)
      obtain ⟨hst, hgr⟩ := hO.out.stored (k * 2) (.int .i64 99)
      obtain ⟨hst2, hgr2⟩ := hst.stored (k * 2 + 1) (.int .i32 (-7))
      have HST := Lib.hid hst2
      have HGR := Lib.hid (World.grownBy.trans (World.grownBy.trans hG.out hgr) hgr2)
      clear hst hgr hst2 hgr2 hx0 hx1
      go_wp2_with fail
      go_roundw
      case rel => exact ⟨k + 1, _, by omega, by go_num, HST, HGR⟩
      case measure => simp [intOf]; omega
    · obtain rfl : k = l.length := by omega
      go_wp2_with fail
      go_end0
      exact ⟨⟨_, rfl⟩, hG.out⟩
end Go.Proofs.Ytjhopgmionpkoaa
