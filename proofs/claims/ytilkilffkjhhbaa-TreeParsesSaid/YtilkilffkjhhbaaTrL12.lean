/-
  What an expression's text is read as: its tokens. Plain Lean, no program in sight.
  The tokens of an expression are read as that expression. Plain Lean, no program in sight.
-/
import Derived.Test.YtilkilffkjhhbaaTrPl
namespace Go.Proofs.Ytilkilffkjhhbaa.Tr
set_option maxRecDepth 20000
set_option linter.unusedVariables false
open Lx (Bs Tok)

/-- a text stands for tokens -/
def Reads (l : Bs) (ts : List Tok) : Prop := ∀ N, (Lx.scanL N (Lx.pass l)).2 = (0, 0) ∧ (Lx.scanL N (Lx.pass l)).1.map Lx.strip = ts
theorem reads_nil : Reads [] [] := fun N => ⟨by rw [Lx.pass_nil, Lx.scanL_nil], by rw [Lx.pass_nil, Lx.scanL_nil]; rfl⟩
theorem reads_blank {c : UInt8} (h : Lx.bp Lx.blank c = true) {l : Bs} {ts : List Tok} (hr : Reads l ts) : Reads (c :: l) ts := fun N => by rw [Lx.pass_blank h]; exact hr N
theorem reads_sp {l : Bs} {ts : List Tok} (hr : Reads l ts) : Reads (32 :: l) ts := reads_blank (by decide) hr
theorem reads_nl {l : Bs} {ts : List Tok} (hr : Reads l ts) : Reads (10 :: l) ts := reads_blank (by decide) hr
/-- a token stands at the beginning, whatever is behind -/
structure Cut (t : Bs) (tk : Tok) (k : Bs) : Prop where
  ne : t ≠ []
  next : Lx.next (t ++ k) = (tk, 0)
  text : tk.text = t
  nb : Lx.bp Lx.blank (t.headD 0) = false
  n45 : (t ++ k).take 2 ≠ [45, 45]
theorem reads_cut {t k : Bs} {tk : Tok} {ts : List Tok} (h : Cut t tk k) (hr : Reads k ts) : Reads (t ++ k) (tk :: ts) := by
  intro N
  have hp : Lx.pass (t ++ k) = t ++ k := Lx.pass_same (by
    intro c r hc
    have h1 := h.ne
    have h2 := h.nb
    cases t with
    | nil => exact absurd rfl h1
    | cons d t =>
      simp only [List.cons_append, List.cons.injEq] at hc
      rw [← hc.1]; exact h2) h.n45
  have ha : tk.at_ = 0 := by
    have := Lx.next_at (t ++ k)
    rw [h.next] at this
    exact this
  rw [hp, Lx.scanL_good N (by simp [h.ne]) (by rw [h.next]), h.next]
  simp only
  rw [h.text, List.drop_left, (hr N).1]
  refine ⟨by simp, ?_⟩
  simp only [ne_eq, not_true_eq_false, if_false, List.map_cons, (hr N).2]
  have ht := h.text
  clear h
  obtain ⟨a, b, c, d⟩ := tk
  simp only at ha ht
  subst ha ht
  rfl
def stopc (c : UInt8) : Bool := c == 32 || c == 41 || c == 59 || c == 10
/-- behind a token's text something that ends it -/
def Stop (k : Bs) : Prop := k = [] ∨ ∃ c r, k = c :: r ∧ stopc c = true
theorem stop_sp (k : Bs) : Stop (32 :: k) := .inr ⟨_, _, rfl, by decide⟩
theorem stop_close (k : Bs) : Stop (41 :: k) := .inr ⟨_, _, rfl, by decide⟩
theorem stop_semi (k : Bs) : Stop (59 :: k) := .inr ⟨_, _, rfl, by decide⟩
theorem stop_nl (k : Bs) : Stop (10 :: k) := .inr ⟨_, _, rfl, by decide⟩
theorem stopc_cases {c : UInt8} (h : stopc c = true) : c = 32 ∨ c = 41 ∨ c = 59 ∨ c = 10 := by
  unfold stopc at h
  simp only [Bool.or_eq_true, beq_iff_eq] at h
  rcases h with ((h | h) | h) | h
  · exact .inl h
  · exact .inr (.inl h)
  · exact .inr (.inr (.inl h))
  · exact .inr (.inr (.inr h))
theorem hd_stop {p : Int → Bool} (hp : p 32 = false ∧ p 41 = false ∧ p 59 = false ∧ p 10 = false) {t k : Bs} (ht : ∀ c ∈ t, Lx.bp p c = true) (hk : Stop k) : Lx.hd p (t ++ k) = t := by
  unfold Lx.hd
  rw [List.takeWhile_append_of_pos ht]
  rcases hk with rfl | ⟨c, r, rfl, hc⟩
  · simp
  · have : Lx.bp p c = false := by
      obtain ⟨h1, h2, h3, h4⟩ := hp
      rcases stopc_cases hc with rfl | rfl | rfl | rfl
      · exact h1
      · exact h2
      · exact h3
      · exact h4
    rw [List.takeWhile_cons_of_neg (by simp [this])]
    simp
theorem headD_append {t k : Bs} (h : t ≠ []) : (t ++ k).headD 0 = t.headD 0 := by
  cases t with
  | nil => exact absurd rfl h
  | cons c t => rfl
theorem take2_ne {t k : Bs} (h : t ≠ []) (h45 : t.headD 0 ≠ 45) : (t ++ k).take 2 ≠ [45, 45] := by
  cases t with
  | nil => exact absurd rfl h
  | cons c t =>
    intro e
    have := congrArg List.head? e
    simp at this
    exact h45 this
theorem words_ok : ∀ w ∈ Lx.words, w ≠ [] ∧ Lx.bp Lx.letter (w.headD 0) = true ∧ (∀ c ∈ w, Lx.bp Lx.inner c = true) := by decide
theorem inner_stop : Lx.inner 32 = false ∧ Lx.inner 41 = false ∧ Lx.inner 59 = false ∧ Lx.inner 10 = false := by decide
theorem digit_stop : Lx.digit 32 = false ∧ Lx.digit 41 = false ∧ Lx.digit 59 = false ∧ Lx.digit 10 = false := by decide
def kw (w : Bs) : Tok := ⟨3, w, 0, 0⟩
def mk (w : Bs) : Tok := ⟨4, w, 0, 0⟩
def nm (m : Bs) : Tok := ⟨1, m, 0, 0⟩
def nu (n : Int) : Tok := ⟨2, digits n, n, 0⟩
theorem cut_word {w k : Bs} (h : Lx.isWord w = true) (hk : Stop k) : Cut w (kw w) k := by
  obtain ⟨h0, h1, h2⟩ := words_ok w (List.contains_iff_mem.1 h)
  have nb := Lx.letter_nb _ h1
  refine ⟨h0, ?_, rfl, nb.1, take2_ne h0 nb.2⟩
  rw [Lx.next_letter (by rw [headD_append h0]; exact h1), hd_stop inner_stop h2 hk, if_pos h]
  rfl
theorem name_parts {m : Bs} (h : Lx.isName m = true) : m ≠ [] ∧ m.length ≤ 16 ∧ Lx.bp Lx.letter (m.headD 0) = true ∧ (∀ c ∈ m, Lx.bp Lx.inner c = true) ∧ Lx.isWord m = false := by
  unfold Lx.isName at h
  simp only [Bool.and_eq_true, decide_eq_true_eq, beq_iff_eq, Bool.not_eq_true'] at h
  obtain ⟨⟨⟨⟨h1, h2⟩, h3⟩, h4⟩, h5⟩ := h
  refine ⟨List.length_pos_iff.1 h1, h2, h3, ?_, h5⟩
  rw [← h4]
  exact Lx.mem_tw _ _
theorem cut_name {m k : Bs} (h : Lx.isName m = true) (hk : Stop k) : Cut m (nm m) k := by
  obtain ⟨h0, h1, h2, h3, h4⟩ := name_parts h
  have nb := Lx.letter_nb _ h2
  refine ⟨h0, ?_, rfl, nb.1, take2_ne h0 nb.2⟩
  rw [Lx.next_letter (by rw [headD_append h0]; exact h2), hd_stop inner_stop h3 hk, h4, if_neg (by decide), if_neg (by omega)]
  rfl
theorem marks_stop : ∀ m ∈ Lx.marks, m.tail ≠ [32] ∧ m.tail ≠ [41] ∧ m.tail ≠ [59] ∧ m.tail ≠ [10] := by decide
theorem marks_head : ∀ m ∈ Lx.marks, Lx.bp Lx.letter (m.headD 0) = false ∧ Lx.bp Lx.digit (m.headD 0) = false := by decide
theorem cut_mark {m k : Bs} (h : Lx.isMark m = true) (hk : Stop k) : Cut m (mk m) k := by
  have hm : m ∈ Lx.marks := List.contains_iff_mem.1 h
  obtain ⟨b0, b1, b2⟩ := Lx.marks_ok m hm
  have hl := Lx.marks_len m hm
  obtain ⟨a1, a2⟩ := marks_head m hm
  refine ⟨b0, ?_, rfl, ?_, ?_⟩
  · rw [Lx.next_mark (by rw [headD_append b0]; exact a1) (by rw [headD_append b0]; exact a2)]
    match m, b0, hl with
    | [a], _, _ =>
      have e : ¬ (2 ≤ ([a] ++ k).length ∧ Lx.isMark (([a] ++ k).take 2) = true) := by
        rintro ⟨g1, g2⟩
        rcases hk with rfl | ⟨c, r, rfl, hc⟩
        · simp at g1
        · have g3 : Lx.isMark [a, c] = true := g2
          have g4 := marks_stop _ (List.contains_iff_mem.1 g3)
          simp only [List.tail_cons, ne_eq, List.cons.injEq, and_true] at g4
          rcases stopc_cases hc with rfl | rfl | rfl | rfl
          · exact g4.1 rfl
          · exact g4.2.1 rfl
          · exact g4.2.2.1 rfl
          · exact g4.2.2.2 rfl
      rw [if_neg e]
      have : ([a] ++ k).take 1 = [a] := rfl
      rw [this, if_pos h]; rfl
    | [a, b], _, _ =>
      have e : ([a, b] ++ k).take 2 = [a, b] := rfl
      rw [e, if_pos ⟨by simp, h⟩]; rfl
    | a :: b :: c :: r, _, hl => simp at hl
  · match m, b0, b1 with
    | c :: m, _, b1 => exact b1 c (by simp)
  · match m, b0, hl with
    | [a], _, _ =>
      intro e
      rcases hk with rfl | ⟨c, r, rfl, hc⟩
      · simp at e
      · simp only [List.cons_append, List.nil_append, List.take_succ_cons, List.take_zero, List.cons.injEq] at e
        rcases stopc_cases hc with rfl | rfl | rfl | rfl <;> simp at e
    | [a, b], _, _ =>
      intro e
      exact b2 e
    | a :: b :: c :: r, _, hl => simp at hl
theorem cut_open (k : Bs) : Cut [40] (mk [40]) k := by
  refine ⟨by simp, ?_, rfl, by decide, ?_⟩
  · rw [Lx.next_mark (l := [40] ++ k) (by rw [headD_append (by simp)]; decide) (by rw [headD_append (by simp)]; decide)]
    have e : ¬ (2 ≤ ([40] ++ k).length ∧ Lx.isMark (([40] ++ k).take 2) = true) := by
      rintro ⟨g1, g2⟩
      cases k with
      | nil => simp at g1
      | cons d r =>
        have g3 : Lx.isMark [40, d] = true := g2
        simp [Lx.isMark, Lx.marks] at g3
    rw [if_neg e]
    rfl
  · cases k with
    | nil => simp
    | cons d r => simp
theorem cut_minus {k : Bs} (h1 : k.headD 0 ≠ 62) (h2 : k.headD 0 ≠ 45) : Cut [45] (mk [45]) k := by
  refine ⟨by simp, ?_, rfl, by decide, ?_⟩
  · rw [Lx.next_mark (l := [45] ++ k) (by rw [headD_append (by simp)]; decide) (by rw [headD_append (by simp)]; decide)]
    have e : ¬ (2 ≤ ([45] ++ k).length ∧ Lx.isMark (([45] ++ k).take 2) = true) := by
      rintro ⟨g1, g2⟩
      cases k with
      | nil => simp at g1
      | cons d r =>
        have g3 : Lx.isMark [45, d] = true := g2
        simp [Lx.isMark, Lx.marks] at g3
        exact h1 g3
    rw [if_neg e]
    rfl
  · cases k with
    | nil => simp
    | cons d r =>
      intro e
      simp at e
      exact h2 e
/-! numbers -/
def dgt (n : Nat) : UInt8 := UInt8.ofNat (48 + n % 10)
theorem dgt_val (n : Nat) : ((dgt n).toNat : Int) = 48 + ((n % 10 : Nat) : Int) := by
  unfold dgt
  rw [UInt8.toNat_ofNat']
  have : (48 + n % 10) % 2 ^ 8 = 48 + n % 10 := Nat.mod_eq_of_lt (by omega)
  rw [this]; omega
theorem dgt_digit (n : Nat) : Lx.bp Lx.digit (dgt n) = true := by
  unfold Lx.bp Lx.digit
  rw [dgt_val]
  simp only [Bool.and_eq_true, decide_eq_true_eq]
  omega
theorem digitsF_eq (f n : Nat) (acc : Bs) : digitsF (f + 1) n acc = if n / 10 = 0 then dgt n :: acc else digitsF f (n / 10) (dgt n :: acc) := by rw [digitsF]; rfl
theorem digitsF_fold (g : Int → UInt8 → Int) (hg : g = fun a c => 10 * a + ((c.toNat : Int) - 48)) : ∀ (f n : Nat) (acc : Bs), n < 10 ^ (f + 1) → (digitsF (f + 1) n acc).foldl g 0 = acc.foldl g (n : Int) := by
  intro f
  induction f with
  | zero =>
    intro n acc h
    have h0 : n / 10 = 0 := by omega
    rw [digitsF_eq, if_pos h0, List.foldl_cons]
    congr 1
    rw [hg]
    simp only
    rw [dgt_val]; omega
  | succ f ih =>
    intro n acc h
    rw [digitsF_eq]
    split
    · rename_i h0
      rw [List.foldl_cons]
      congr 1
      rw [hg]
      simp only
      rw [dgt_val]; omega
    · rw [ih _ _ (by rw [Nat.pow_succ] at h; omega), List.foldl_cons]
      congr 1
      rw [hg]
      simp only
      rw [dgt_val]; omega
theorem digitsF_all : ∀ (f n : Nat) (acc : Bs), (∀ c ∈ acc, Lx.bp Lx.digit c = true) → ∀ c ∈ digitsF f n acc, Lx.bp Lx.digit c = true
  | 0, _, acc, h => by rw [digitsF]; exact h
  | f + 1, n, acc, h => by
    have h' : ∀ c ∈ dgt n :: acc, Lx.bp Lx.digit c = true := by
      intro c hc
      rcases List.mem_cons.1 hc with rfl | hc
      · exact dgt_digit n
      · exact h c hc
    rw [digitsF_eq]
    split
    · exact h'
    · exact digitsF_all f _ _ h'
theorem digitsF_head : ∀ (f n : Nat) (acc : Bs), n < 10 ^ (f + 1) → 0 < n → digitsF (f + 1) n acc ≠ [] ∧ (digitsF (f + 1) n acc).headD 0 ≠ 48 := by
  have one : ∀ n : Nat, n / 10 = 0 → 0 < n → dgt n ≠ 48 := by
    intro n h0 h e
    have := dgt_val n
    rw [e] at this
    have h48 : ((48 : UInt8).toNat : Int) = 48 := rfl
    rw [h48] at this
    omega
  intro f
  induction f with
  | zero =>
    intro n acc h hp
    have h0 : n / 10 = 0 := by omega
    rw [digitsF_eq, if_pos h0]
    exact ⟨by simp, one n h0 hp⟩
  | succ f ih =>
    intro n acc h hp
    rw [digitsF_eq]
    split
    · rename_i h0
      exact ⟨by simp, one n h0 hp⟩
    · exact ih _ _ (by rw [Nat.pow_succ] at h; omega) (by omega)
theorem digits_nat (n : Int) (h : 0 ≤ n) : digits n = digitsF 10 n.toNat [] := by
  unfold digits
  rw [if_neg (by omega)]
  congr 1
  omega
theorem digits_ok {n : Int} (h0 : 0 ≤ n) (h1 : n ≤ 2147483647) : digits n ≠ [] ∧ (∀ c ∈ digits n, Lx.bp Lx.digit c = true) ∧ Lx.readOk (digits n) = true ∧ Lx.numVal (digits n) = n := by
  have hv : Lx.numVal (digits n) = n := by
    rw [digits_nat n h0]
    unfold Lx.numVal
    rw [digitsF_fold _ rfl 9 _ _ (by omega)]
    simp only [List.foldl_nil]
    omega
  have ha : ∀ c ∈ digits n, Lx.bp Lx.digit c = true := by rw [digits_nat n h0]; exact digitsF_all _ _ _ (by simp)
  have hl := digits_len n
  have hh : digits n ≠ [] ∧ ((digits n).headD 0 ≠ 48 ∨ digits n = [48]) := by
    rw [digits_nat n h0]
    by_cases hz : n.toNat = 0
    · rw [hz]
      exact ⟨by decide, .inr (by decide)⟩
    · have := digitsF_head 9 n.toNat [] (by omega) (by omega)
      exact ⟨this.1, .inl this.2⟩
  refine ⟨hh.1, ha, ?_, hv⟩
  unfold Lx.readOk
  rw [hv]
  simp only [Bool.and_eq_true, decide_eq_true_eq, Bool.not_eq_true', Bool.and_eq_false_iff]
  refine ⟨⟨hl, ?_⟩, h1⟩
  rcases hh.2 with h | h
  · exact .inl (by simpa using h)
  · exact .inr (by rw [h]; rfl)
theorem cut_num {n : Int} {k : Bs} (h0 : 0 ≤ n) (h1 : n ≤ 2147483647) (hk : Stop k) : Cut (digits n) (nu n) k := by
  obtain ⟨a0, a1, a2, a3⟩ := digits_ok h0 h1
  have hd0 : Lx.bp Lx.digit ((digits n).headD 0) = true := by
    generalize digits n = t at *
    cases t with
    | nil => exact absurd rfl a0
    | cons c t => exact a1 c (by simp)
  have nb := Lx.digit_nb _ hd0
  have hnl : Lx.bp Lx.letter ((digits n).headD 0) = false := by
    unfold Lx.bp Lx.digit at hd0
    unfold Lx.bp Lx.letter
    simp only [Bool.and_eq_true, decide_eq_true_eq] at hd0
    simp only [Bool.and_eq_false_iff, decide_eq_false_iff_not]
    omega
  refine ⟨a0, ?_, rfl, nb.1, take2_ne a0 nb.2⟩
  rw [Lx.next_digit (by rw [headD_append a0]; exact hnl) (by rw [headD_append a0]; exact hd0), hd_stop digit_stop a1 hk, a2, if_pos rfl, a3]
  rfl
/-! expressions -/
/-- the expressions that are formed -/
inductive Form : Ex → Prop where
  | num (n : Int) (h0 : 0 ≤ n) (h1 : n ≤ 2147483647) : Form (.mk 1 n [] [])
  | tru : Form (.mk 2 1 [] [])
  | fls : Form (.mk 2 0 [] [])
  | var (m : Bs) (h : Lx.isName m = true) : Form (.mk 3 0 m [])
  | neg (a : Ex) (ha : Form a) : Form (.mk 4 1 [] [a])
  | not (a : Ex) (ha : Form a) : Form (.mk 4 2 [] [a])
  | bin (o : Int) (h0 : 1 ≤ o) (h1 : o ≤ 16) (a b : Ex) (ha : Form a) (hb : Form b) : Form (.mk 5 o [] [a, b])
  | cond (a b c : Ex) (ha : Form a) (hb : Form b) (hc : Form c) : Form (.mk 6 0 [] [a, b, c])
  | arr (a b : Ex) (ha : Form a) (hb : Form b) : Form (.mk 7 0 [] [a, b])
  | when_ (m : Bs) (h : Lx.isName m = true) (a : Ex) (ha : Form a) : Form (.mk 8 0 m [a])
  | unless_ (m : Bs) (h : Lx.isName m = true) (a : Ex) (ha : Form a) : Form (.mk 9 0 m [a])
  | merge (m : Bs) (h : Lx.isName m = true) (a b : Ex) (ha : Form a) (hb : Form b) : Form (.mk 10 0 m [a, b])
theorem form_of : ∀ x : Ex, formed x = true → Form x := by
  refine Ex.ind ?_
  intro k n m s ih h
  rw [formed_eq, Bool.and_eq_true] at h
  obtain ⟨hsh, hs⟩ := h
  have hm : ∀ x ∈ s, Form x := fun x hx => ih x hx (formeds_mem hs hx)
  clear ih hs
  unfold shape form at hsh
  have l0 : ∀ s : List Ex, s.length = 0 → s = [] := fun s h => List.length_eq_zero_iff.1 h
  have l1 : ∀ s : List Ex, s.length = 1 → ∃ a, s = [a] := fun s h => List.length_eq_one_iff.1 h
  have l2 : ∀ s : List Ex, s.length = 2 → ∃ a b, s = [a, b] := fun s h => by
    match s, h with
    | [a, b], _ => exact ⟨a, b, rfl⟩
  have l3 : ∀ s : List Ex, s.length = 3 → ∃ a b c, s = [a, b, c] := fun s h => by
    match s, h with
    | [a, b, c], _ => exact ⟨a, b, c, rfl⟩
  have key : ∀ {p : Nat} {lo hi : Int} {b : Bool}, (s.length == p && decide (lo ≤ n) && decide (n ≤ hi) && (if b then Lx.isName m else m == [])) = true → s.length = p ∧ lo ≤ n ∧ n ≤ hi ∧ (b = true → Lx.isName m = true) ∧ (b = false → m = []) := by
    intro p lo hi b h
    simp only [Bool.and_eq_true, beq_iff_eq, decide_eq_true_eq] at h
    refine ⟨h.1.1.1, h.1.1.2, h.1.2, ?_, ?_⟩
    · rintro rfl; simpa using h.2
    · rintro rfl; simpa using h.2
  by_cases h1 : k = 1
  · rw [if_pos h1] at hsh
    obtain ⟨e, a, b, -, hn⟩ := key hsh
    obtain rfl := l0 s e
    obtain rfl := hn rfl
    subst h1
    exact .num n a b
  rw [if_neg h1] at hsh
  by_cases h2 : k = 2
  · rw [if_pos h2] at hsh
    obtain ⟨e, a, b, -, hn⟩ := key hsh
    obtain rfl := l0 s e
    obtain rfl := hn rfl
    subst h2
    rcases (show n = 0 ∨ n = 1 by omega) with rfl | rfl
    · exact .fls
    · exact .tru
  rw [if_neg h2] at hsh
  by_cases h3 : k = 3
  · rw [if_pos h3] at hsh
    obtain ⟨e, a, b, hn, -⟩ := key hsh
    obtain rfl := l0 s e
    obtain rfl : n = 0 := by omega
    subst h3
    exact .var m (hn rfl)
  rw [if_neg h3] at hsh
  by_cases h4 : k = 4
  · rw [if_pos h4] at hsh
    obtain ⟨e, a, b, -, hn⟩ := key hsh
    obtain ⟨x, rfl⟩ := l1 s e
    obtain rfl := hn rfl
    subst h4
    rcases (show n = 1 ∨ n = 2 by omega) with rfl | rfl
    · exact .neg x (hm x (by simp))
    · exact .not x (hm x (by simp))
  rw [if_neg h4] at hsh
  by_cases h5 : k = 5
  · rw [if_pos h5] at hsh
    obtain ⟨e, a, b, -, hn⟩ := key hsh
    obtain ⟨x, y, rfl⟩ := l2 s e
    obtain rfl := hn rfl
    subst h5
    exact .bin n a b x y (hm x (by simp)) (hm y (by simp))
  rw [if_neg h5] at hsh
  by_cases h6 : k = 6
  · rw [if_pos h6] at hsh
    obtain ⟨e, a, b, -, hn⟩ := key hsh
    obtain ⟨x, y, z, rfl⟩ := l3 s e
    obtain rfl := hn rfl
    obtain rfl : n = 0 := by omega
    subst h6
    exact .cond x y z (hm x (by simp)) (hm y (by simp)) (hm z (by simp))
  rw [if_neg h6] at hsh
  by_cases h7 : k = 7
  · rw [if_pos h7] at hsh
    obtain ⟨e, a, b, -, hn⟩ := key hsh
    obtain ⟨x, y, rfl⟩ := l2 s e
    obtain rfl := hn rfl
    obtain rfl : n = 0 := by omega
    subst h7
    exact .arr x y (hm x (by simp)) (hm y (by simp))
  rw [if_neg h7] at hsh
  by_cases h8 : k = 8
  · rw [if_pos h8] at hsh
    obtain ⟨e, a, b, hn, -⟩ := key hsh
    obtain ⟨x, rfl⟩ := l1 s e
    obtain rfl : n = 0 := by omega
    subst h8
    exact .when_ m (hn rfl) x (hm x (by simp))
  rw [if_neg h8] at hsh
  by_cases h9 : k = 9
  · rw [if_pos h9] at hsh
    obtain ⟨e, a, b, hn, -⟩ := key hsh
    obtain ⟨x, rfl⟩ := l1 s e
    obtain rfl : n = 0 := by omega
    subst h9
    exact .unless_ m (hn rfl) x (hm x (by simp))
  rw [if_neg h9] at hsh
  by_cases h10 : k = 10
  · rw [if_pos h10] at hsh
    obtain ⟨e, a, b, hn, -⟩ := key hsh
    obtain ⟨x, y, rfl⟩ := l2 s e
    obtain rfl : n = 0 := by omega
    subst h10
    exact .merge m (hn rfl) x y (hm x (by simp)) (hm y (by simp))
  rw [if_neg h10] at hsh
  simp at hsh

/-- an expression's tokens, of its parts' -/
def glueT (k n : Int) (m : Bs) (l : List (List Tok)) : List Tok :=
  if k = 1 then [nu n]
  else if k = 2 then (if n = 0 then [kw wFalse] else [kw wTrue])
  else if k = 4 then (if n = 2 then kw wNot :: l.getD 0 [] else mk [45] :: l.getD 0 [])
  else if k = 5 then l.getD 0 [] ++ mk (opm n) :: l.getD 1 []
  else if k = 6 then kw wIf :: (l.getD 0 [] ++ kw wThen :: (l.getD 1 [] ++ kw wElse :: l.getD 2 []))
  else if k = 7 then l.getD 0 [] ++ mk arrow :: l.getD 1 []
  else if k = 8 then l.getD 0 [] ++ [kw wWhen, nm m]
  else if k = 9 then l.getD 0 [] ++ [kw wUnless, nm m]
  else if k = 10 then kw wMerge :: nm m :: (l.getD 0 [] ++ l.getD 1 [])
  else [nm m]
mutual
def toks : Ex → List Tok
  | .mk k n m s => glueT k n m (toksL (k == 6) s)
def toksL (w : Bool) : List Ex → List (List Tok)
  | [] => []
  | x :: r => (if w || bare x.kind then toks x else mk [40] :: (toks x ++ [mk [41]])) :: toksL w r
end
def partT (x : Ex) : List Tok := if bare x.kind then toks x else mk [40] :: (toks x ++ [mk [41]])
theorem toks_eq (k n : Int) (m : Bs) (s : List Ex) : toks (.mk k n m s) = glueT k n m (toksL (k == 6) s) := by rw [toks]
theorem toksL_nil (w : Bool) : toksL w [] = [] := by rw [toksL]
theorem toksL_cons (w : Bool) (x : Ex) (r : List Ex) : toksL w (x :: r) = (if w || bare x.kind then toks x else mk [40] :: (toks x ++ [mk [41]])) :: toksL w r := by rw [toksL]
theorem toksL_map : ∀ (w : Bool) (s : List Ex), toksL w s = s.map (if w then toks else partT)
  | w, [] => by rw [toksL_nil]; rfl
  | w, x :: r => by
    rw [toksL_cons, toksL_map w r, List.map_cons]
    cases w <;> simp [partT]
theorem toks_num (n : Int) : toks (.mk 1 n [] []) = [nu n] := by rw [toks_eq]; rfl
theorem toks_tru : toks (.mk 2 1 [] []) = [kw wTrue] := by rw [toks_eq]; rfl
theorem toks_fls : toks (.mk 2 0 [] []) = [kw wFalse] := by rw [toks_eq]; rfl
theorem toks_var (m : Bs) : toks (.mk 3 0 m []) = [nm m] := by rw [toks_eq]; rfl
theorem toks_neg (a : Ex) : toks (.mk 4 1 [] [a]) = mk [45] :: partT a := by rw [toks_eq, toksL_map]; rfl
theorem toks_not (a : Ex) : toks (.mk 4 2 [] [a]) = kw wNot :: partT a := by rw [toks_eq, toksL_map]; rfl
theorem toks_bin (n : Int) (a b : Ex) : toks (.mk 5 n [] [a, b]) = partT a ++ mk (opm n) :: partT b := by rw [toks_eq, toksL_map]; rfl
theorem toks_if (a b c : Ex) : toks (.mk 6 0 [] [a, b, c]) = kw wIf :: (toks a ++ kw wThen :: (toks b ++ kw wElse :: toks c)) := by rw [toks_eq, toksL_map]; rfl
theorem toks_arrow (a b : Ex) : toks (.mk 7 0 [] [a, b]) = partT a ++ mk arrow :: partT b := by rw [toks_eq, toksL_map]; rfl
theorem toks_when (m : Bs) (a : Ex) : toks (.mk 8 0 m [a]) = partT a ++ [kw wWhen, nm m] := by rw [toks_eq, toksL_map]; rfl
theorem toks_unless (m : Bs) (a : Ex) : toks (.mk 9 0 m [a]) = partT a ++ [kw wUnless, nm m] := by rw [toks_eq, toksL_map]; rfl
theorem toks_merge (m : Bs) (a b : Ex) : toks (.mk 10 0 m [a, b]) = kw wMerge :: nm m :: (partT a ++ partT b) := by rw [toks_eq, toksL_map]; rfl
theorem opm_mark : ∀ o : Int, 1 ≤ o → o ≤ 16 → Lx.isMark (opm o) = true := by
  intro o h0 h1
  rcases (show o = 1 ∨ o = 2 ∨ o = 3 ∨ o = 4 ∨ o = 5 ∨ o = 6 ∨ o = 7 ∨ o = 8 ∨ o = 9 ∨ o = 10 ∨ o = 11 ∨ o = 12 ∨ o = 13 ∨ o = 14 ∨ o = 15 ∨ o = 16 by omega) with rfl | rfl | rfl | rfl | rfl | rfl | rfl | rfl | rfl | rfl | rfl | rfl | rfl | rfl | rfl | rfl <;> decide
def Writes (t : Bs) (ts : List Tok) : Prop := ∀ k ws, Stop k → Reads k ws → Reads (t ++ k) (ts ++ ws)
theorem writes_part {x : Ex} (h : Writes (text x) (toks x)) : Writes (part x) (partT x) := by
  intro k ws hk hr
  unfold part partT
  split
  · exact h k ws hk hr
  · have h1 : Reads (41 :: k) (mk [41] :: ws) := reads_cut (cut_mark (m := [41]) (by decide) hk) hr
    have h2 := h (41 :: k) _ (stop_close k) h1
    have h3 : Reads ([40] ++ (text x ++ 41 :: k)) (mk [40] :: (toks x ++ mk [41] :: ws)) := reads_cut (cut_open _) h2
    simpa using h3
theorem writes_word {w : Bs} (h : Lx.isWord w = true) : Writes w [kw w] := fun _ _ hk hr => reads_cut (cut_word h hk) hr
theorem writes_name {w : Bs} (h : Lx.isName w = true) : Writes w [nm w] := fun _ _ hk hr => reads_cut (cut_name h hk) hr
theorem writes_mark {w : Bs} (h : Lx.isMark w = true) : Writes w [mk w] := fun _ _ hk hr => reads_cut (cut_mark h hk) hr
theorem writes_num {n : Int} (h0 : 0 ≤ n) (h1 : n ≤ 2147483647) : Writes (digits n) [nu n] := fun _ _ hk hr => reads_cut (cut_num h0 h1 hk) hr
theorem Writes.sp {a b : Bs} {x y : List Tok} (ha : Writes a x) (hb : Writes b y) : Writes (a ++ sp ++ b) (x ++ y) := by
  intro k ws hk hr
  have h1 := hb k ws hk hr
  have h2 := ha (32 :: (b ++ k)) _ (stop_sp _) (reads_sp h1)
  simpa [Tr.sp] using h2
theorem part_head {x : Ex} (h : Form x) : (part x ≠ []) ∧ (part x).headD 0 ≠ 62 ∧ (part x).headD 0 ≠ 45 := by
  have brk : ∀ t : Bs, ([40] ++ t ++ [41] : Bs) ≠ [] ∧ ([40] ++ t ++ [41] : Bs).headD 0 ≠ 62 ∧ ([40] ++ t ++ [41] : Bs).headD 0 ≠ 45 := fun t => ⟨by simp, by simp, by simp⟩
  have app : ∀ a b : Bs, a ≠ [] ∧ a.headD 0 ≠ 62 ∧ a.headD 0 ≠ 45 → a ++ b ≠ [] ∧ (a ++ b).headD 0 ≠ 62 ∧ (a ++ b).headD 0 ≠ 45 := fun a b h => by
    cases a with
    | nil => exact absurd rfl h.1
    | cons c a => exact ⟨by simp, h.2⟩
  have lt : ∀ c : UInt8, Lx.bp Lx.letter c = true → c ≠ 62 ∧ c ≠ 45 := fun c h => ⟨by rintro rfl; exact absurd h (by decide), by rintro rfl; exact absurd h (by decide)⟩
  have dg : ∀ c : UInt8, Lx.bp Lx.digit c = true → c ≠ 62 ∧ c ≠ 45 := fun c h => ⟨by rintro rfl; exact absurd h (by decide), by rintro rfl; exact absurd h (by decide)⟩
  induction h with
  | num n h0 h1 =>
    have e : part (.mk 1 n [] []) = digits n := by unfold part; rw [text_num]; rfl
    rw [e]
    obtain ⟨a0, a1, -⟩ := digits_ok h0 h1
    generalize digits n = t at *
    cases t with
    | nil => exact absurd rfl a0
    | cons c t => exact ⟨by simp, dg c (a1 c (by simp))⟩
  | tru => decide +kernel
  | fls => decide +kernel
  | var m h =>
    have e : part (.mk 3 0 m []) = m := by unfold part; rw [text_var]; rfl
    rw [e]
    obtain ⟨a0, -, a1, -⟩ := name_parts h
    exact ⟨a0, lt _ a1⟩
  | neg a ha ih => exact brk _
  | not a ha ih => exact brk _
  | bin o h0 h1 a b ha hb iha ihb => exact brk _
  | cond a b c ha hb hc _ _ _ => exact brk _
  | arr a b ha hb _ _ => exact brk _
  | when_ m h a ha ih =>
    have e : part (.mk 8 0 m [a]) = part a ++ (sp ++ wWhen ++ sp ++ m) := by unfold part; rw [text_when]; simp [bare, Ex.kind, part]
    rw [e]; exact app _ _ ih
  | unless_ m h a ha ih =>
    have e : part (.mk 9 0 m [a]) = part a ++ (sp ++ wUnless ++ sp ++ m) := by unfold part; rw [text_unless]; simp [bare, Ex.kind, part]
    rw [e]; exact app _ _ ih
  | merge m h a b ha hb _ _ => exact brk _
theorem writes_text {x : Ex} (h : Form x) : Writes (text x) (toks x) := by
  induction h with
  | num n h0 h1 => rw [text_num, toks_num]; exact writes_num h0 h1
  | tru => rw [text_bool1, toks_tru]; exact writes_word (by decide)
  | fls => rw [text_bool0, toks_fls]; exact writes_word (by decide)
  | var m h => rw [text_var, toks_var]; exact writes_name h
  | neg a ha ih =>
    rw [text_neg, toks_neg]
    intro k ws hk hr
    have hp := part_head ha
    have h1 := writes_part ih k ws hk hr
    have e : (part a ++ k).headD 0 = (part a).headD 0 := headD_append hp.1
    have h2 := reads_cut (cut_minus (k := part a ++ k) (by rw [e]; exact hp.2.1) (by rw [e]; exact hp.2.2)) h1
    simpa using h2
  | not a ha ih => rw [text_not, toks_not]; exact (writes_word (by decide)).sp (writes_part ih)
  | bin o h0 h1 a b ha hb iha ihb =>
    rw [text_bin, toks_bin]
    have := ((writes_part iha).sp (writes_mark (opm_mark o h0 h1))).sp (writes_part ihb)
    simpa using this
  | cond a b c ha hb hc iha ihb ihc =>
    rw [text_if, toks_if]
    have := (((((writes_word (w := wIf) (by decide)).sp iha).sp (writes_word (w := wThen) (by decide))).sp ihb).sp (writes_word (w := wElse) (by decide))).sp ihc
    simpa using this
  | arr a b ha hb iha ihb =>
    rw [text_arrow, toks_arrow]
    have := ((writes_part iha).sp (writes_mark (w := arrow) (by decide))).sp (writes_part ihb)
    simpa using this
  | when_ m h a ha ih =>
    rw [text_when, toks_when]
    have := ((writes_part ih).sp (writes_word (w := wWhen) (by decide))).sp (writes_name h)
    simpa using this
  | unless_ m h a ha ih =>
    rw [text_unless, toks_unless]
    have := ((writes_part ih).sp (writes_word (w := wUnless) (by decide))).sp (writes_name h)
    simpa using this
  | merge m h a b ha hb iha ihb =>
    rw [text_merge, toks_merge]
    have := (((writes_word (w := wMerge) (by decide)).sp (writes_name h)).sp (writes_part iha)).sp (writes_part ihb)
    simpa using this
/-- a text that is read is scanned -/
theorem Reads.scan {l : Bs} {ts : List Tok} (h : Reads l ts) (hl : l.length ≤ 4096) : (Lx.scan l).2 = (0, 0) ∧ (Lx.scan l).1.map Lx.strip = ts := by
  rw [Lx.scan_small hl]; exact h _
end Go.Proofs.Ytilkilffkjhhbaa.Tr
namespace Go.Proofs.Ytilkilffkjhhbaa.Tr
set_option maxRecDepth 20000
set_option linter.unusedVariables false
open Lx (Bs Tok)

def S (i : Nat) : St := ⟨i, false⟩
theorem S_adv (i : Nat) : (S i).adv = S (i + 1) := rfl
/-- what is left of the tokens -/
def On (ts : List Tok) (i : Nat) (l : List Tok) : Prop := ts.drop i = l
def hsees (l : List Tok) (m : Bs) : Bool := match l with
  | [] => false
  | t :: _ => (t.kind == 3 || t.kind == 4) && t.text == m
def hkind (l : List Tok) (k : Int) : Bool := match l with
  | [] => false
  | t :: _ => t.kind == k
section
variable {ts : List Tok} {i : Nat}
theorem On.sees {l : List Tok} (h : On ts i l) (m : Bs) : sees ts (S i) m = hsees l m := by
  have e : ts[i]? = l.head? := by rw [← List.head?_drop, h]
  unfold Tr.sees S hsees
  simp only [e]
  cases l <;> rfl
theorem On.kind {l : List Tok} (h : On ts i l) (k : Int) : isKind ts (S i) k = hkind l k := by
  have e : ts[i]? = l.head? := by rw [← List.head?_drop, h]
  unfold Tr.isKind S hkind
  simp only [e]
  cases l <;> rfl
theorem On.tok {t : Tok} {l : List Tok} (h : On ts i (t :: l)) : tok ts (S i) = t := by
  have e : ts[i]? = some t := by rw [← List.head?_drop, h]; rfl
  unfold Tr.tok S
  simp [e]
theorem On.step {t : Tok} {l : List Tok} (h : On ts i (t :: l)) : On ts (i + 1) l := by
  unfold On at *
  rw [← List.drop_drop, h]; rfl
theorem On.skip {a l : List Tok} (h : On ts i (a ++ l)) : On ts (i + a.length) l := by
  unfold On at *
  rw [← List.drop_drop, h, List.drop_left]
theorem On.len {l : List Tok} (h : On ts i l) (hi : i ≤ ts.length) : ts.length = i + l.length := by
  have := congrArg List.length h
  rw [List.length_drop] at this
  omega
theorem On.need {t : Tok} {l : List Tok} (h : On ts i (t :: l)) {m : Bs} (hs : hsees (t :: l) m = true) : need ts (S i) m = S (i + 1) := by
  unfold Tr.need
  rw [h.sees, hs, if_pos rfl, S_adv]
theorem On.name {m : Bs} {l : List Tok} (h : On ts i (nm m :: l)) : name ts (S i) = (m, S (i + 1)) := by
  have e : isKind ts (S i) 1 = true := by rw [h.kind]; rfl
  unfold Tr.name Tr.token
  rw [e, if_pos rfl, h.tok, S_adv]
  rfl
/-- what cannot go on an expression -/
def Loose (l : List Tok) : Prop := hsees l wWhen = false ∧ hsees l wUnless = false
def Ends (l : List Tok) : Prop := Loose l ∧ hsees l arrow = false ∧ ∀ o : Int, 1 ≤ o → o ≤ 16 → hsees l (opm o) = false
theorem op_cases {o : Int} (h0 : 1 ≤ o) (h1 : o ≤ 16) {Q : Int → Prop} (h : ∀ o ∈ [(1 : Int), 2, 3, 4, 5, 6, 7, 8, 9, 10, 11, 12, 13, 14, 15, 16], Q o) : Q o := by
  refine h o ?_
  simp only [List.mem_cons, List.not_mem_nil, or_false]
  omega
theorem ends_nil : Ends [] := ⟨⟨rfl, rfl⟩, rfl, fun _ _ _ => rfl⟩
theorem ends_tok (w : Bs) (hw : (w == wWhen) = false ∧ (w == wUnless) = false ∧ (w == arrow) = false ∧ ∀ o ∈ [(1 : Int), 2, 3, 4, 5, 6, 7, 8, 9, 10, 11, 12, 13, 14, 15, 16], (w == opm o) = false) (k : Int) (l : List Tok) : Ends (⟨k, w, 0, 0⟩ :: l) := by
  have g : ∀ m, (w == m) = false → hsees (⟨k, w, 0, 0⟩ :: l) m = false := fun m h => by
    unfold hsees
    simp only [h, Bool.and_false]
  exact ⟨⟨g _ hw.1, g _ hw.2.1⟩, g _ hw.2.2.1, fun o h0 h1 => g _ (op_cases h0 h1 hw.2.2.2)⟩
theorem ends_close (l : List Tok) : Ends (mk [41] :: l) := ends_tok _ (by decide) _ _
theorem ends_semi (l : List Tok) : Ends (mk [59] :: l) := ends_tok _ (by decide) _ _
theorem ends_then (l : List Tok) : Ends (kw wThen :: l) := ends_tok _ (by decide) _ _
theorem ends_else (l : List Tok) : Ends (kw wElse :: l) := ends_tok _ (by decide) _ _
theorem ends_fby (l : List Tok) : Ends (kw wFby :: l) := ends_tok _ (by decide) _ _
def wamong (w : Bs) : List Int → Int
  | [] => 0
  | o :: r => if w == opm o then o else wamong w r
theorem On.among {w : Bs} {l : List Tok} (h : On ts i (mk w :: l)) : ∀ os, among ts (S i) os = wamong w os
  | [] => by rw [Tr.among, wamong]
  | o :: r => by rw [Tr.among, wamong, h.sees, On.among h r]; rfl
theorem ops_range : ∀ n ≤ 5, ∀ o ∈ ops n, 1 ≤ o ∧ o ≤ 16 := by decide
theorem among_none {l : List Tok} (h : On ts i l) (he : Ends l) {n : Nat} (hn : n ≤ 5) : among ts (S i) (ops n) = 0 := by
  have g : ∀ os : List Int, (∀ o ∈ os, 1 ≤ o ∧ o ≤ 16) → Tr.among ts (S i) os = 0 := by
    intro os
    induction os with
    | nil => intro _; rw [Tr.among]
    | cons o r ih =>
      intro ho
      have := ho o (by simp)
      rw [Tr.among, h.sees, he.2.2 o this.1 this.2, if_neg (by decide), ih fun o ho' => ho o (by simp [ho'])]
  exact g _ (ops_range n hn)
/-- the level of an operation -/
def lv (o : Int) : Nat := if o ≤ 2 then 4 else if o ≤ 5 then 5 else if o ≤ 7 then 3 else if o = 8 then 1 else if o ≤ 10 then 0 else 2
theorem wamong_op : ∀ o ∈ [(1 : Int), 2, 3, 4, 5, 6, 7, 8, 9, 10, 11, 12, 13, 14, 15, 16], ∀ n ≤ 5, wamong (opm o) (ops n) = if n = lv o then o else 0 := by decide
theorem wamong_arrow : ∀ n ≤ 5, wamong arrow (ops n) = 0 := by decide
theorem lv_le (o : Int) : lv o ≤ 5 := by unfold lv; repeat' split <;> try omega
theorem opm_ne : ∀ o ∈ [(1 : Int), 2, 3, 4, 5, 6, 7, 8, 9, 10, 11, 12, 13, 14, 15, 16], (opm o == wWhen) = false ∧ (opm o == wUnless) = false ∧ (opm o == arrow) = false := by decide
theorem lev_down {s s' : St} {x : Ex} : ∀ (d k : Nat), k ≤ 6 → d ≤ k → P ts (.level k) s = (x, s') → (∀ j, k - d ≤ j → j < k → among ts s' (ops j) = 0) → P ts (.level (k - d)) s = (x, s')
  | 0, k, _, _, h, _ => h
  | d + 1, k, hk, hd, h, ha => by
    have ih := lev_down d k hk (by omega) h (fun j h1 h2 => ha j (by omega) h2)
    have e : k - d = k - (d + 1) + 1 := by omega
    rw [P_level (by omega), ← e, ih]
    exact P_loop_end (ha _ (Nat.le_refl _) (by omega))
theorem lev_to {s s' : St} {x : Ex} {k n : Nat} (hk : k ≤ 6) (hn : n ≤ k) (h : P ts (.level k) s = (x, s')) (ha : ∀ j, n ≤ j → j < k → among ts s' (ops j) = 0) : P ts (.level n) s = (x, s') := by
  have := lev_down (k - n) k hk (by omega) h (fun j h1 h2 => ha j (by omega) h2)
  have e : k - (k - n) = n := by omega
  rwa [e] at this
theorem expr_of_level {j : Nat} {s : St} {x : Ex} {r : List Tok} {k : Nat} (hk : k ≤ 6) (h : P ts (.level k) s = (x, S j)) (hr : On ts j r) (he : Ends r) : P ts .expr s = (x, S j) := by
  have h0 := lev_to hk (Nat.zero_le _) h (fun n _ h2 => among_none hr he (by omega))
  rw [P_expr, h0]
  simp only
  rw [hr.sees, he.2.1, if_neg (by decide)]
theorem expr_of_unary {j : Nat} {s : St} {x : Ex} {r : List Tok} (h : P ts .unary s = (x, S j)) (hr : On ts j r) (he : Ends r) : P ts .expr s = (x, S j) :=
  expr_of_level (k := 6) (Nat.le_refl _) (by rw [P_six]; exact h) hr he
def ClaimE (ts : List Tok) (x : Ex) : Prop := ∀ i r, On ts i (toks x ++ r) → Ends r → P ts .expr (S i) = (x, S (i + (toks x).length))
def ClaimF (ts : List Tok) (x : Ex) : Prop := ∀ i r, On ts i (partT x ++ r) → P ts .factor (S i) = P ts (.floop x) (S (i + (partT x).length))
theorem floop_end {x : Ex} {l : List Tok} (h : On ts i l) (hl : Loose l) : P ts (.floop x) (S i) = (x, S i) := by
  rw [P_floop, h.sees, h.sees, hl.1, hl.2, if_neg (by decide), if_neg (by decide)]
/-- with which token a part begins -/
theorem part_first {x : Ex} (h : Form x) : ∃ t l, partT x = t :: l ∧ ∀ r, hsees (t :: r) [45] = false ∧ hsees (t :: r) wNot = false ∧ Loose (t :: r) := by
  have brk : ∀ t : List Tok, ∃ u l, mk [40] :: (t ++ [mk [41]]) = u :: l ∧ ∀ r, hsees (u :: r) [45] = false ∧ hsees (u :: r) wNot = false ∧ Loose (u :: r) := fun t =>
    ⟨_, _, rfl, fun r => ⟨rfl, rfl, rfl, rfl⟩⟩
  induction h with
  | num n h0 h1 => exact ⟨nu n, [], by unfold partT; rw [toks_num]; rfl, fun r => ⟨rfl, rfl, rfl, rfl⟩⟩
  | tru => exact ⟨kw wTrue, [], by unfold partT; rw [toks_tru]; rfl, fun r => ⟨rfl, rfl, rfl, rfl⟩⟩
  | fls => exact ⟨kw wFalse, [], by unfold partT; rw [toks_fls]; rfl, fun r => ⟨rfl, rfl, rfl, rfl⟩⟩
  | var m h => exact ⟨nm m, [], by unfold partT; rw [toks_var]; rfl, fun r => ⟨rfl, rfl, rfl, rfl⟩⟩
  | neg a ha ih => exact brk _
  | not a ha ih => exact brk _
  | bin o h0 h1 a b ha hb _ _ => exact brk _
  | cond a b c ha hb hc _ _ _ => exact brk _
  | arr a b ha hb _ _ => exact brk _
  | when_ m h a ha ih =>
    obtain ⟨t, l, e, hh⟩ := ih
    refine ⟨t, l ++ [kw wWhen, nm m], ?_, hh⟩
    have : partT (.mk 8 0 m [a]) = partT a ++ [kw wWhen, nm m] := by unfold partT; rw [toks_when]; simp [bare, Ex.kind, partT]
    rw [this, e]; rfl
  | unless_ m h a ha ih =>
    obtain ⟨t, l, e, hh⟩ := ih
    refine ⟨t, l ++ [kw wUnless, nm m], ?_, hh⟩
    have : partT (.mk 9 0 m [a]) = partT a ++ [kw wUnless, nm m] := by unfold partT; rw [toks_unless]; simp [bare, Ex.kind, partT]
    rw [this, e]; rfl
  | merge m h a b ha hb _ _ => exact brk _
theorem unary_part {x : Ex} (hx : Form x) (hF : ClaimF ts x) {r : List Tok} (h : On ts i (partT x ++ r)) (hl : Loose r) : P ts .unary (S i) = (x, S (i + (partT x).length)) := by
  obtain ⟨t, l, e, hh⟩ := part_first hx
  have h1 : hsees (partT x ++ r) [45] = false := by rw [e]; exact (hh (l ++ r)).1
  have h2 : hsees (partT x ++ r) wNot = false := by rw [e]; exact (hh (l ++ r)).2.1
  rw [P_unary, h.sees, h.sees, h1, h2, if_neg (by decide), if_neg (by decide), hF i r h]
  exact floop_end h.skip hl
theorem factor_part {x : Ex} (hF : ClaimF ts x) {r : List Tok} (h : On ts i (partT x ++ r)) (hl : Loose r) : P ts .factor (S i) = (x, S (i + (partT x).length)) := by
  rw [hF i r h]
  exact floop_end h.skip hl
theorem unary_factor {r : List Tok} {y : Ex × St} (h : On ts i r) (h1 : hsees r [45] = false) (h2 : hsees r wNot = false) (hf : P ts .factor (S i) = y) : P ts .unary (S i) = y := by
  rw [P_unary, h.sees, h.sees, h1, h2, if_neg (by decide), if_neg (by decide), hf]
theorem atom_brk {x : Ex} (hE : ClaimE ts x) {r : List Tok} (h : On ts i (mk [40] :: (toks x ++ mk [41] :: r))) : P ts .atom (S i) = (x, S (i + (toks x).length + 2)) := by
  have h1 := hE (i + 1) _ h.step (ends_close _)
  have h2 := h.step.skip
  rw [P_atom, h.kind, h.sees, h.sees, h.sees, if_neg (by simp [hkind, mk]), if_neg (by show ¬ (([40] : Bs) == wTrue) = true; decide), if_neg (by show ¬ (([40] : Bs) == wFalse) = true; decide), if_pos (by rfl), S_adv, h1]
  simp only
  rw [h2.need (by rfl)]
  have e : i + 1 + (toks x).length + 1 = i + (toks x).length + 2 := by omega
  rw [e]
theorem factor_atom {x : Ex} {j : Nat} (h : P ts .atom (S i) = (x, S j)) : P ts .factor (S i) = P ts (.floop x) (S j) := by rw [P_factor, h]
theorem claimF_brk {x : Ex} (hb : bare x.kind = false) (hE : ClaimE ts x) : ClaimF ts x := by
  intro i r h
  have e : partT x = mk [40] :: (toks x ++ [mk [41]]) := by unfold partT; rw [hb]; rfl
  rw [e] at h ⊢
  have h' : On ts i (mk [40] :: (toks x ++ mk [41] :: r)) := by simpa using h
  rw [factor_atom (atom_brk hE h')]
  have e2 : i + (toks x).length + 2 = i + (mk [40] :: (toks x ++ [mk [41]])).length := by simp; omega
  rw [e2]
theorem claimE_bare {x : Ex} (hx : Form x) (hb : bare x.kind = true) (hF : ClaimF ts x) : ClaimE ts x := by
  intro i r h he
  have e : partT x = toks x := by unfold partT; rw [hb]; rfl
  rw [← e] at h ⊢
  exact expr_of_unary (unary_part hx hF h he.1) h.skip he
theorem claims {x : Ex} (hx : Form x) : ClaimE ts x ∧ ClaimF ts x := by
  induction hx with
  | num n h0 h1 =>
    have hF : ClaimF ts (.mk 1 n [] []) := by
      intro i r h
      have e : partT (.mk 1 n [] []) = [nu n] := by unfold partT; rw [toks_num]; rfl
      rw [e] at h ⊢
      refine factor_atom ?_
      rw [P_atom, h.kind, if_pos (by rfl), On.tok (t := nu n) (l := r) h, S_adv]
      rfl
    exact ⟨claimE_bare (.num n h0 h1) rfl hF, hF⟩
  | tru =>
    have hF : ClaimF ts (.mk 2 1 [] []) := by
      intro i r h
      have e : partT (.mk 2 1 [] []) = [kw wTrue] := by unfold partT; rw [toks_tru]; rfl
      rw [e] at h ⊢
      refine factor_atom ?_
      rw [P_atom, h.kind, h.sees, if_neg (by simp [hkind, kw]), if_pos (by rfl), S_adv]
      rfl
    exact ⟨claimE_bare .tru rfl hF, hF⟩
  | fls =>
    have hF : ClaimF ts (.mk 2 0 [] []) := by
      intro i r h
      have e : partT (.mk 2 0 [] []) = [kw wFalse] := by unfold partT; rw [toks_fls]; rfl
      rw [e] at h ⊢
      refine factor_atom ?_
      rw [P_atom, h.kind, h.sees, h.sees, if_neg (by simp [hkind, kw]), if_neg (by show ¬ (wFalse == wTrue) = true; decide), if_pos (by rfl), S_adv]
      rfl
    exact ⟨claimE_bare .fls rfl hF, hF⟩
  | var m hm =>
    have hF : ClaimF ts (.mk 3 0 m []) := by
      intro i r h
      have e : partT (.mk 3 0 m []) = [nm m] := by unfold partT; rw [toks_var]; rfl
      rw [e] at h ⊢
      refine factor_atom ?_
      have hs : ∀ w, hsees ([nm m] ++ r) w = false := fun w => rfl
      rw [P_atom, h.kind, h.sees, h.sees, h.sees, h.sees, h.sees, hs, hs, hs, hs, hs, if_neg (by simp [hkind, nm]), if_neg (by decide), if_neg (by decide), if_neg (by decide), if_neg (by decide), if_neg (by decide), On.name (m := m) (l := r) h]
      rfl
    exact ⟨claimE_bare (.var m hm) rfl hF, hF⟩
  | neg a ha ih =>
    have hE : ClaimE ts (.mk 4 1 [] [a]) := by
      intro i r h he
      rw [toks_neg] at h ⊢
      have h1 := unary_part ha ih.2 (r := r) h.step he.1
      have h2 : On ts (i + 1 + (partT a).length) r := h.step.skip
      refine expr_of_unary ?_ (by have e : i + (mk [45] :: partT a).length = i + 1 + (partT a).length := by simp; omega
                                  rw [e]; exact h2) he
      rw [P_unary, h.sees, if_pos (by rfl), S_adv, h1]
      have e : i + (mk [45] :: partT a).length = i + 1 + (partT a).length := by simp; omega
      rw [e]
    exact ⟨hE, claimF_brk rfl hE⟩
  | not a ha ih =>
    have hE : ClaimE ts (.mk 4 2 [] [a]) := by
      intro i r h he
      rw [toks_not] at h ⊢
      have h1 := unary_part ha ih.2 (r := r) h.step he.1
      have h2 : On ts (i + 1 + (partT a).length) r := h.step.skip
      have e : i + (kw wNot :: partT a).length = i + 1 + (partT a).length := by simp; omega
      rw [e]
      refine expr_of_unary ?_ h2 he
      rw [P_unary, h.sees, h.sees, if_neg (by show ¬ (wNot == [45]) = true; decide), if_pos (by rfl), S_adv, h1]
    exact ⟨hE, claimF_brk rfl hE⟩
  | bin o h0 h1 a b ha hb iha ihb =>
    have hE : ClaimE ts (.mk 5 o [] [a, b]) := by
      intro i r h he
      rw [toks_bin] at h ⊢
      have hon : On ts i (partT a ++ (mk (opm o) :: (partT b ++ r))) := by simpa using h
      obtain ⟨n1, n2, n3⟩ := op_cases h0 h1 opm_ne
      have hl : Loose (mk (opm o) :: (partT b ++ r)) := ⟨n1, n2⟩
      have hop := hon.skip
      have hw := fun n hn => op_cases h0 h1 wamong_op n hn
      have hu := unary_part ha iha.2 hon hl
      have hla : P ts (.level (lv o + 1)) (S i) = (a, S (i + (partT a).length)) := by
        refine lev_to (k := 6) (Nat.le_refl _) (by have := lv_le o; omega) (by rw [P_six]; exact hu) ?_
        intro j h2 h3
        rw [hop.among, hw j (by omega), if_neg (by omega)]
      have hb1 : On ts (i + (partT a).length + 1) (partT b ++ r) := hop.step
      have hu2 := unary_part hb ihb.2 hb1 he.1
      have hend := hb1.skip
      have hlb : P ts (.level (lv o + 1)) (S (i + (partT a).length + 1)) = (b, S (i + (partT a).length + 1 + (partT b).length)) := by
        refine lev_to (k := 6) (Nat.le_refl _) (by have := lv_le o; omega) (by rw [P_six]; exact hu2) ?_
        intro j _ h3
        exact among_none hend he (by omega)
      have ham : among ts (S (i + (partT a).length)) (ops (lv o)) = o := by rw [hop.among, hw _ (lv_le o), if_pos rfl]
      have hlv : P ts (.level (lv o)) (S i) = (.mk 5 o [] [a, b], S (i + (partT a).length + 1 + (partT b).length)) := by
        rw [P_level (lv_le o), hla]
        simp only
        rw [P_loop (lv_le o) (by rw [ham]; omega), ham, S_adv, hlb]
        simp only
        split
        · rfl
        · rw [P_loop_end (among_none hend he (lv_le o))]
          rfl
      have e : i + (partT a ++ mk (opm o) :: partT b).length = i + (partT a).length + 1 + (partT b).length := by simp; omega
      rw [e]
      exact expr_of_level (by have := lv_le o; omega) hlv hend he
    exact ⟨hE, claimF_brk rfl hE⟩
  | cond a b c ha hb hc iha ihb ihc =>
    have hE : ClaimE ts (.mk 6 0 [] [a, b, c]) := by
      intro i r h he
      rw [toks_if] at h ⊢
      have hon : On ts i (kw wIf :: (toks a ++ (kw wThen :: (toks b ++ (kw wElse :: (toks c ++ r)))))) := by simpa using h
      have h1 := iha.1 _ _ hon.step (ends_then _)
      have o1 := hon.step.skip
      have h2 := ihb.1 _ _ o1.step (ends_else _)
      have o2 := o1.step.skip
      have h3 := ihc.1 _ _ o2.step he
      have o3 := o2.step.skip
      have e : i + (kw wIf :: (toks a ++ kw wThen :: (toks b ++ kw wElse :: toks c))).length = i + 1 + (toks a).length + 1 + (toks b).length + 1 + (toks c).length := by simp; omega
      rw [e]
      refine expr_of_unary (unary_factor hon (by rfl) (by rfl) ?_) o3 he
      rw [factor_atom (j := i + 1 + (toks a).length + 1 + (toks b).length + 1 + (toks c).length) (x := .mk 6 0 [] [a, b, c]) ?_]
      · exact floop_end o3 he.1
      · rw [P_atom, hon.kind, hon.sees, hon.sees, hon.sees, hon.sees, if_neg (by simp [hkind, kw]), if_neg (by show ¬ (wIf == wTrue) = true; decide), if_neg (by show ¬ (wIf == wFalse) = true; decide), if_neg (by show ¬ (wIf == [40]) = true; decide), if_pos (by rfl), S_adv, h1]
        simp only
        rw [o1.need (by rfl), h2]
        simp only
        rw [o2.need (by rfl), h3]
    exact ⟨hE, claimF_brk rfl hE⟩
  | arr a b ha hb iha ihb =>
    have hE : ClaimE ts (.mk 7 0 [] [a, b]) := by
      intro i r h he
      rw [toks_arrow] at h ⊢
      have hon : On ts i (partT a ++ (mk arrow :: (partT b ++ r))) := by simpa using h
      have hop := hon.skip
      have hu := unary_part ha iha.2 hon ⟨by rfl, by rfl⟩
      have hl0 : P ts (.level 0) (S i) = (a, S (i + (partT a).length)) := by
        refine lev_to (k := 6) (Nat.le_refl _) (Nat.zero_le _) (by rw [P_six]; exact hu) ?_
        intro j _ h3
        rw [hop.among, wamong_arrow j (by omega)]
      have hb1 := hop.step
      have hu2 := expr_of_unary (unary_part hb ihb.2 hb1 he.1) hb1.skip he
      have e : i + (partT a ++ mk arrow :: partT b).length = i + (partT a).length + 1 + (partT b).length := by simp; omega
      rw [e, P_expr, hl0]
      simp only
      rw [hop.sees, if_pos (by rfl), S_adv, hu2]
    exact ⟨hE, claimF_brk rfl hE⟩
  | when_ m hm a ha ih =>
    have hF : ClaimF ts (.mk 8 0 m [a]) := by
      intro i r h
      have e : partT (.mk 8 0 m [a]) = partT a ++ [kw wWhen, nm m] := by unfold partT; rw [toks_when]; simp [bare, Ex.kind, partT]
      rw [e] at h ⊢
      have hon : On ts i (partT a ++ (kw wWhen :: nm m :: r)) := by simpa using h
      have o1 := hon.skip
      rw [ih.2 _ _ hon, P_floop, o1.sees, if_pos (by rfl), S_adv, o1.step.name]
      have e2 : i + (partT a ++ [kw wWhen, nm m]).length = i + (partT a).length + 1 + 1 := by simp; omega
      rw [e2]
    exact ⟨claimE_bare (.when_ m hm a ha) rfl hF, hF⟩
  | unless_ m hm a ha ih =>
    have hF : ClaimF ts (.mk 9 0 m [a]) := by
      intro i r h
      have e : partT (.mk 9 0 m [a]) = partT a ++ [kw wUnless, nm m] := by unfold partT; rw [toks_unless]; simp [bare, Ex.kind, partT]
      rw [e] at h ⊢
      have hon : On ts i (partT a ++ (kw wUnless :: nm m :: r)) := by simpa using h
      have o1 := hon.skip
      rw [ih.2 _ _ hon, P_floop, o1.sees, o1.sees, if_neg (by show ¬ (wUnless == wWhen) = true; decide), if_pos (by rfl), S_adv, o1.step.name]
      have e2 : i + (partT a ++ [kw wUnless, nm m]).length = i + (partT a).length + 1 + 1 := by simp; omega
      rw [e2]
    exact ⟨claimE_bare (.unless_ m hm a ha) rfl hF, hF⟩
  | merge m hm a b ha hb iha ihb =>
    have hE : ClaimE ts (.mk 10 0 m [a, b]) := by
      intro i r h he
      rw [toks_merge] at h ⊢
      have hon : On ts i (kw wMerge :: nm m :: (partT a ++ (partT b ++ r))) := by simpa using h
      obtain ⟨t, l, ep, hh⟩ := part_first hb
      have lo : Loose (partT b ++ r) := by rw [ep]; exact (hh (l ++ r)).2.2
      have h1 := factor_part iha.2 hon.step.step lo
      have o1 := hon.step.step.skip
      have h2 := factor_part ihb.2 o1 he.1
      have o2 := o1.skip
      have e : i + (kw wMerge :: nm m :: (partT a ++ partT b)).length = i + 1 + 1 + (partT a).length + (partT b).length := by simp; omega
      rw [e]
      refine expr_of_unary (unary_factor hon (by rfl) (by rfl) ?_) o2 he
      rw [factor_atom (j := i + 1 + 1 + (partT a).length + (partT b).length) (x := .mk 10 0 m [a, b]) ?_]
      · exact floop_end o2 he.1
      · rw [P_atom, hon.kind, hon.sees, hon.sees, hon.sees, hon.sees, hon.sees, if_neg (by simp [hkind, kw]), if_neg (by show ¬ (wMerge == wTrue) = true; decide), if_neg (by show ¬ (wMerge == wFalse) = true; decide), if_neg (by show ¬ (wMerge == [40]) = true; decide), if_neg (by show ¬ (wMerge == wIf) = true; decide), if_pos (by rfl), S_adv, hon.step.name]
        simp only
        rw [h1]
        simp only
        rw [h2]
    exact ⟨hE, claimF_brk rfl hE⟩
theorem expr_toks {x : Ex} (hx : Form x) {r : List Tok} (h : On ts i (toks x ++ r)) (he : Ends r) : P ts .expr (S i) = (x, S (i + (toks x).length)) := (claims hx).1 i r h he
/-- in brackets -/
theorem expr_brk {x : Ex} {l : List Tok} (hE : ∀ i r, On ts i (l ++ r) → Ends r → P ts .expr (S i) = (x, S (i + l.length))) : ∀ i r, On ts i ((mk [40] :: (l ++ [mk [41]])) ++ r) → Ends r → P ts .expr (S i) = (x, S (i + (mk [40] :: (l ++ [mk [41]])).length)) := by
  intro i r h he
  have h' : On ts i (mk [40] :: (l ++ mk [41] :: r)) := by simpa using h
  have h1 := hE (i + 1) _ h'.step (ends_close _)
  have h2 := h'.step.skip
  have ha : P ts .atom (S i) = (x, S (i + 1 + l.length + 1)) := by
    rw [P_atom, h'.kind, h'.sees, h'.sees, h'.sees, if_neg (by simp [hkind, mk]), if_neg (by show ¬ (([40] : Bs) == wTrue) = true; decide), if_neg (by show ¬ (([40] : Bs) == wFalse) = true; decide), if_pos (by rfl), S_adv, h1]
    simp only
    rw [h2.need (by rfl)]
  have e : i + (mk [40] :: (l ++ [mk [41]])).length = i + 1 + l.length + 1 := by simp; omega
  rw [e]
  refine expr_of_unary (unary_factor h' (by rfl) (by rfl) ?_) h2.step he
  rw [factor_atom ha]
  exact floop_end h2.step he.1
end
/-! the parser looks at no place -/
section
variable (ts : List Tok)
def stripL (ts : List Tok) : List Tok := ts.map Lx.strip
theorem sees_strip (s : St) (m : Bs) : sees (stripL ts) s m = sees ts s m := by
  unfold sees stripL
  simp only [List.getElem?_map]
  cases s.bad <;> cases ts[s.at_]? <;> rfl
theorem isKind_strip (s : St) (k : Int) : isKind (stripL ts) s k = isKind ts s k := by
  unfold isKind stripL
  simp only [List.getElem?_map]
  cases s.bad <;> cases ts[s.at_]? <;> rfl
theorem tok_strip (s : St) : tok (stripL ts) s = Lx.strip (tok ts s) := by
  unfold tok stripL
  simp only [List.getD_eq_getElem?_getD, List.getElem?_map]
  cases ts[s.at_]? <;> rfl
theorem need_strip (s : St) (m : Bs) : need (stripL ts) s m = need ts s m := by unfold need; rw [sees_strip]
theorem name_strip (s : St) : name (stripL ts) s = name ts s := by
  unfold name token
  rw [isKind_strip]
  split
  · simp only [tok_strip, Lx.strip]
  · rfl
theorem among_strip (s : St) : ∀ os, among (stripL ts) s os = among ts s os
  | [] => by rw [among, among]
  | o :: r => by rw [among, among, sees_strip, among_strip s r]
theorem stripL_len : (stripL ts).length = ts.length := by simp [stripL]
theorem run_strip : ∀ (f : Nat) (c : Call) (s : St), run (stripL ts) f c s = run ts f c s
  | 0, c, s => by rw [run, run]
  | f + 1, c, s => by
    have ih := run_strip f
    cases c with
    | expr => rw [run, run]; simp only [ih, sees_strip]
    | level n => rw [run, run]; simp only [ih]
    | loop n x => rw [run, run]; simp only [ih, among_strip]
    | unary => rw [run, run]; simp only [ih, sees_strip]
    | factor => rw [run, run]; simp only [ih]
    | floop x => rw [run, run]; simp only [ih, sees_strip, name_strip]
    | atom =>
      rw [run, run]
      simp only [ih, sees_strip, name_strip, need_strip, isKind_strip, tok_strip, Lx.strip]
theorem P_strip (c : Call) (s : St) : P (stripL ts) c s = P ts c s := by
  unfold P fuel
  rw [stripL_len, run_strip]
end
end Go.Proofs.Ytilkilffkjhhbaa.Tr
