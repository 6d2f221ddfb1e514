/-
  What the package lex says of bytes, in plain Lean: tokens, their places, joining and writing back. No program in sight.
-/
namespace Go.Proofs.Ytilkilffkjhhbaa.Lx
set_option maxRecDepth 20000
set_option linter.unusedVariables false
abbrev Bs := List UInt8
def letter (c : Int) : Bool := decide (97 ≤ c) && decide (c ≤ 122)
def digit (c : Int) : Bool := decide (48 ≤ c) && decide (c ≤ 57)
def inner (c : Int) : Bool := letter c || digit c || c == 95
def blank (c : Int) : Bool := c == 32 || c == 9 || c == 10 || c == 13
def other (c : Int) : Bool := c != 10
def bp (p : Int → Bool) (c : UInt8) : Bool := p c.toNat
def hd (p : Int → Bool) (l : Bs) : Bs := l.takeWhile (bp p)
def words : List Bs := [[110, 111, 100, 101], [114, 101, 116, 117, 114, 110, 115], [118, 97, 114], [108, 101, 116], [116, 101, 108], [105, 102], [116, 104, 101, 110], [101, 108, 115, 101], [102, 98, 121], [112, 114, 101], [119, 104, 101, 110], [117, 110, 108, 101, 115, 115], [109, 101, 114, 103, 101], [110, 111, 116], [116, 114, 117, 101], [102, 97, 108, 115, 101], [105, 110, 116], [98, 111, 111, 108]]
def marks : List Bs := [[60, 60], [62, 62], [60, 62], [60, 61], [62, 61], [45, 62], [40], [41], [58], [44], [59], [61], [60], [62], [43], [45], [42], [47], [37], [38], [124], [94]]
def isWord (l : Bs) : Bool := words.contains l
def isMark (l : Bs) : Bool := marks.contains l
def isName (l : Bs) : Bool := decide (0 < l.length) && decide (l.length ≤ 16) && bp letter (l.headD 0) && (hd inner l == l) && !isWord l
/-- what is left behind blanks and remarks: at most n rounds -/
def passF : Nat → Bs → Bs
  | 0, l => l
  | n + 1, l =>
    let m := l.dropWhile (bp blank)
    if m.take 2 = [45, 45] then passF n (m.dropWhile (bp other)) else m
def pass (l : Bs) : Bs := passF (l.length + 1) l
def numVal (l : Bs) : Int := l.foldl (fun a c => 10 * a + ((c.toNat : Int) - 48)) 0
def readOk (l : Bs) : Bool := decide (l.length ≤ 11) && !(l.headD 0 == 48 && l != [48]) && decide (numVal l ≤ 2147483647)
structure Tok where
  kind : Int
  text : Bs
  n : Int
  at_ : Int
/-- the token with which a text begins (its place left 0), and the error -/
def next (l : Bs) : Tok × Int :=
  if bp letter (l.headD 0) then
    let t := hd inner l
    if isWord t then (⟨3, t, 0, 0⟩, 0)
    else if 16 < t.length then (⟨1, t, 0, 0⟩, 3)
    else (⟨1, t, 0, 0⟩, 0)
  else if bp digit (l.headD 0) then
    let t := hd digit l
    if readOk t then (⟨2, t, numVal t, 0⟩, 0) else (⟨2, t, 0, 0⟩, 16)
  else if 2 ≤ l.length ∧ isMark (l.take 2) then (⟨4, l.take 2, 0, 0⟩, 0)
  else if isMark (l.take 1) then (⟨4, l.take 1, 0, 0⟩, 0)
  else (⟨0, [], 0, 0⟩, 15)
/-- the tokens of what is left of a text of N bytes; the error and its place -/
def scanF (N : Nat) : Nat → Bs → List Tok × Int × Int
  | 0, _ => ([], 0, 0)
  | k + 1, l =>
    if l = [] then ([], 0, 0)
    else
      let (t, e) := next l
      let pl : Int := (N : Int) - l.length
      if e ≠ 0 then ([], e, pl)
      else
        let (ts, f, q) := scanF N k (pass (l.drop t.text.length))
        if f ≠ 0 then ([], f, q) else ({ t with at_ := pl } :: ts, 0, 0)
def scan (l : Bs) : List Tok × Int × Int :=
  if 4096 < l.length then ([], 3, 0) else scanF l.length (l.length + 1) (pass l)
def text : List Tok → Bs
  | [] => []
  | [t] => t.text
  | t :: u :: r => t.text ++ [32] ++ text (u :: r)
theorem dropWhile_len (p : UInt8 → Bool) (l : Bs) : (l.dropWhile p).length ≤ l.length := (List.dropWhile_sublist p).length_le
theorem passF_len : ∀ (n : Nat) (l : Bs), (passF n l).length ≤ l.length
  | 0, l => Nat.le_refl _
  | n + 1, l => by
    unfold passF
    simp only
    split
    · exact Nat.le_trans (passF_len n _) (Nat.le_trans (dropWhile_len _ _) (dropWhile_len _ _))
    · exact dropWhile_len _ _
theorem pass_len (l : Bs) : (pass l).length ≤ l.length := passF_len _ _
theorem other_drop {m : Bs} (h : m.take 2 = [45, 45]) : (m.dropWhile (bp other)).length < m.length := by
  cases m with
  | nil => simp at h
  | cons c r =>
    have hc : c = 45 := by
      have := congrArg List.head? h
      simpa using this
    subst hc
    have e : bp other 45 = true := by decide
    rw [List.dropWhile_cons_of_pos e]
    have := dropWhile_len (bp other) r
    simp only [List.length_cons]
    omega
theorem passF_fuel : ∀ (n m : Nat) (l : Bs), l.length < n → l.length < m → passF n l = passF m l
  | 0, _, l, h, _ => by omega
  | _ + 1, 0, l, _, h => by omega
  | n + 1, m + 1, l, h1, h2 => by
    unfold passF
    simp only
    split
    · rename_i ht
      have a := other_drop ht
      have b := dropWhile_len (bp blank) l
      exact passF_fuel n m _ (by omega) (by omega)
    · rfl
/-- pass, unrolled once -/
theorem pass_eq (l : Bs) : pass l = if (l.dropWhile (bp blank)).take 2 = [45, 45] then pass ((l.dropWhile (bp blank)).dropWhile (bp other)) else l.dropWhile (bp blank) := by
  show passF (l.length + 1) l = _
  unfold passF
  simp only
  split
  · rename_i ht
    have a := other_drop ht
    have b := dropWhile_len (bp blank) l
    exact passF_fuel _ _ _ (by omega) (by omega)
  · rfl
/-- what stands at a pass's end is no blank and no remark -/
theorem pass_head (l : Bs) : (∀ c r, pass l = c :: r → bp blank c = false) ∧ (pass l).take 2 ≠ [45, 45] := by
  have key : ∀ (n : Nat) (l : Bs), l.length < n → (∀ c r, pass l = c :: r → bp blank c = false) ∧ (pass l).take 2 ≠ [45, 45] := by
    intro n
    induction n with
    | zero => intro l h; omega
    | succ n ih =>
      intro l h
      rw [pass_eq]
      split
      · rename_i ht
        have a := other_drop ht
        have b := dropWhile_len (bp blank) l
        exact ih _ (by omega)
      · rename_i ht
        refine ⟨fun c r hc => ?_, ht⟩
        have := List.head?_dropWhile_not (bp blank) l
        rw [hc] at this
        simpa using this
  exact key (l.length + 1) l (by omega)
theorem pass_nil : pass [] = [] := by decide
theorem pass_blank {c : UInt8} (h : bp blank c = true) (l : Bs) : pass (c :: l) = pass l := by
  rw [pass_eq (c :: l), pass_eq l, List.dropWhile_cons_of_pos h]
theorem pass_same {l : Bs} (h1 : ∀ c r, l = c :: r → bp blank c = false) (h2 : l.take 2 ≠ [45, 45]) : pass l = l := by
  have e : l.dropWhile (bp blank) = l := by
    cases l with
    | nil => rfl
    | cons c r => exact List.dropWhile_cons_of_neg (by simp [h1 c r rfl])
  rw [pass_eq, e, if_neg h2]
theorem dropWhile_append_nl (p : UInt8 → Bool) (l r : Bs) : (l ++ r).dropWhile p = if l.dropWhile p = [] then r.dropWhile p else l.dropWhile p ++ r := by
  rw [List.dropWhile_append]
  simp only [List.isEmpty_iff]
theorem take2_append {l r : Bs} (h : l ≠ []) (hr : r.head? = some 10) : (l ++ r).take 2 = [45, 45] ↔ l.take 2 = [45, 45] := by
  match l, h with
  | [c], _ =>
    cases r with
    | nil => simp at hr
    | cons d r => simp at hr; subst hr; simp
  | c :: d :: l, _ => simp
theorem pass_append : ∀ (n : Nat) (l : Bs) (b : Bs), l.length < n → pass (l ++ 10 :: b) = if pass l = [] then pass b else pass l ++ 10 :: b := by
  intro n
  induction n with
  | zero => intro l b h; omega
  | succ n ih =>
    intro l b h
    have hb : pass (10 :: b) = pass b := pass_blank (by decide) b
    rw [pass_eq (l ++ 10 :: b), dropWhile_append_nl, pass_eq l]
    by_cases hm : l.dropWhile (bp blank) = []
    · rw [if_pos hm, hm]
      simp only [List.take_nil, List.nil_eq, reduceCtorEq, if_false, if_true]
      rw [← pass_eq (10 :: b), hb]
    · rw [if_neg hm]
      by_cases ht : (l.dropWhile (bp blank)).take 2 = [45, 45]
      · have a := other_drop ht
        have c := dropWhile_len (bp blank) l
        rw [if_pos ((take2_append hm rfl).2 ht), if_pos ht, dropWhile_append_nl]
        by_cases ho : (l.dropWhile (bp blank)).dropWhile (bp other) = []
        · rw [if_pos ho, ho, pass_nil, if_pos rfl]
          rw [List.dropWhile_cons_of_neg (by decide), hb]
        · rw [if_neg ho]
          exact ih _ b (by omega)
      · rw [if_neg (fun e => ht ((take2_append hm rfl).1 e)), if_neg ht, if_neg hm]
theorem hd_append_nl {p : Int → Bool} (hp : p 10 = false) (l b : Bs) : hd p (l ++ 10 :: b) = hd p l := by
  unfold hd
  rw [List.takeWhile_append]
  split
  · have e : bp p 10 = false := hp
    rw [List.takeWhile_cons_of_neg (by simp [e])]
    rename_i h
    rw [List.append_nil]
    exact (List.IsPrefix.eq_of_length (List.takeWhile_prefix _) h).symm
  · rfl
theorem no_nl : ∀ m ∈ marks, (10 : UInt8) ∉ m := by decide
theorem mark_nl {c : UInt8} : isMark [c, 10] = false := by
  rcases h : isMark [c, 10] with _ | _
  · rfl
  · unfold isMark at h
    have := no_nl _ (List.contains_iff_mem.1 h)
    simp at this
theorem next_append {l : Bs} (h : l ≠ []) (b : Bs) : next (l ++ 10 :: b) = next l := by
  match l, h with
  | c :: l, _ =>
    have e0 : (c :: l ++ 10 :: b).headD 0 = c := rfl
    have e1 : (c :: l).headD 0 = c := rfl
    have e2 : (c :: l ++ 10 :: b).take 1 = (c :: l).take 1 := rfl
    have e3 : (2 ≤ (c :: l ++ 10 :: b).length ∧ isMark ((c :: l ++ 10 :: b).take 2) = true) ↔ (2 ≤ (c :: l).length ∧ isMark ((c :: l).take 2) = true) := by
      match l with
      | [] => simp [mark_nl]
      | d :: l => simp
    have e4 : 2 ≤ (c :: l).length ∧ isMark ((c :: l).take 2) = true → (c :: l ++ 10 :: b).take 2 = (c :: l).take 2 := by
      match l with
      | [] => simp
      | d :: l => simp
    unfold next
    rw [e0, e1, e2, hd_append_nl (by decide), hd_append_nl (by decide)]
    by_cases h3 : 2 ≤ (c :: l).length ∧ isMark ((c :: l).take 2) = true
    · rw [if_pos (e3.2 h3), if_pos h3, e4 h3]
    · rw [if_neg (fun e => h3 (e3.1 e)), if_neg h3]
theorem hd_prefix (p : Int → Bool) (l : Bs) : hd p l = l.take (hd p l).length := by
  unfold hd
  exact (List.prefix_iff_eq_take.1 (List.takeWhile_prefix _))
theorem hd_pos {p : Int → Bool} {l : Bs} (hl : l ≠ []) (h : bp p (l.headD 0) = true) : 0 < (hd p l).length := by
  match l, hl with
  | c :: l, _ =>
    have h' : bp p c = true := h
    unfold hd
    rw [List.takeWhile_cons_of_pos h']
    simp
theorem letter_inner {c : UInt8} (h : bp letter c = true) : bp inner c = true := by
  unfold bp at *
  unfold inner
  rw [h]; rfl
theorem mark_ne : ∀ m ∈ marks, 0 < m.length := by decide
/-- a token's text stands at the beginning, and is not empty -/
theorem next_text {l : Bs} (hl : l ≠ []) (he : (next l).2 = 0) : (next l).1.text = l.take (next l).1.text.length ∧ 0 < (next l).1.text.length ∧ (next l).1.text.length ≤ l.length := by
  have key : ∀ t : Bs, t = l.take t.length → 0 < t.length → t = l.take t.length ∧ 0 < t.length ∧ t.length ≤ l.length := fun t h1 h2 =>
    ⟨h1, h2, by rw [h1, List.length_take]; omega⟩
  have hk : ∀ k, 0 < k → k ≤ l.length → (l.take k) = l.take (l.take k).length ∧ 0 < (l.take k).length := fun k h1 h2 => by
    rw [List.length_take, Nat.min_eq_left h2]; exact ⟨rfl, h1⟩
  have hlen : 0 < l.length := List.length_pos_iff.2 hl
  revert he
  unfold next
  split
  · rename_i h
    have hp := hd_pos hl (letter_inner h)
    simp only
    split
    · intro _; exact key _ (hd_prefix _ _) hp
    · split
      · intro h; simp at h
      · intro _; exact key _ (hd_prefix _ _) hp
  · split
    · rename_i h
      have hp := hd_pos hl h
      simp only
      split
      · intro _; exact key _ (hd_prefix _ _) hp
      · intro h; simp at h
    · split
      · rename_i h
        intro _
        exact key _ (hk 2 (by omega) h.1).1 (hk 2 (by omega) h.1).2
      · split
        · intro _
          exact key _ (hk 1 (by omega) (by omega)).1 (hk 1 (by omega) (by omega)).2
        · intro h; simp at h
theorem next_at (l : Bs) : (next l).1.at_ = 0 := by
  unfold next
  repeat' (first | rfl | split | simp only)
theorem next_err (l : Bs) : 0 ≤ (next l).2 := by
  unfold next
  repeat' (first | decide | split | simp only)
theorem scanF_fuel (N : Nat) : ∀ (n m : Nat) (l : Bs), l.length < n → l.length < m → scanF N n l = scanF N m l
  | 0, _, l, h, _ => by omega
  | _ + 1, 0, l, _, h => by omega
  | n + 1, m + 1, l, h1, h2 => by
    unfold scanF
    by_cases hl : l = []
    · rw [if_pos hl, if_pos hl]
    · rw [if_neg hl, if_neg hl]
      simp only
      by_cases he : (next l).2 = 0
      · have ht := next_text hl he
        have hp := pass_len (l.drop (next l).1.text.length)
        have hd : (l.drop (next l).1.text.length).length < l.length := by rw [List.length_drop]; omega
        rw [scanF_fuel N n m _ (by omega) (by omega)]
      · rw [if_pos he, if_pos he]
/-- the tokens of what is left, without fuel -/
def scanL (N : Nat) (l : Bs) : List Tok × Int × Int := scanF N (l.length + 1) l
theorem scanL_nil (N : Nat) : scanL N [] = ([], 0, 0) := rfl
theorem scanL_bad (N : Nat) {l : Bs} (hl : l ≠ []) (he : (next l).2 ≠ 0) : scanL N l = ([], (next l).2, (N : Int) - l.length) := by
  unfold scanL scanF
  rw [if_neg hl]
  simp only
  rw [if_pos he]
theorem scanL_good (N : Nat) {l : Bs} (hl : l ≠ []) (he : (next l).2 = 0) :
    scanL N l = if (scanL N (pass (l.drop (next l).1.text.length))).2.1 ≠ 0 then ([], (scanL N (pass (l.drop (next l).1.text.length))).2.1, (scanL N (pass (l.drop (next l).1.text.length))).2.2)
      else ({ (next l).1 with at_ := (N : Int) - l.length } :: (scanL N (pass (l.drop (next l).1.text.length))).1, 0, 0) := by
  have ht := next_text hl he
  have hp := pass_len (l.drop (next l).1.text.length)
  have hd : (l.drop (next l).1.text.length).length < l.length := by rw [List.length_drop]; omega
  have hf : scanF N l.length (pass (l.drop (next l).1.text.length)) = scanL N (pass (l.drop (next l).1.text.length)) := scanF_fuel N _ _ _ (by omega) (by omega)
  show scanF N (l.length + 1) l = _
  unfold scanF
  rw [if_neg hl]
  simp only
  rw [if_neg (fun h => h he), hf]
theorem drop_append_le {l r : Bs} {k : Nat} (h : k ≤ l.length) : (l ++ r).drop k = l.drop k ++ r := by
  rw [List.drop_append, Nat.sub_eq_zero_of_le h, List.drop_zero]
def shift (d : Int) (t : Tok) : Tok := { t with at_ := t.at_ + d }
theorem scanL_shift (N d : Nat) : ∀ (n : Nat) (l : Bs), l.length < n →
    (scanL (N + d) l).1 = (scanL N l).1.map (shift d) ∧ (scanL (N + d) l).2.1 = (scanL N l).2.1 ∧ ((scanL N l).2.1 ≠ 0 → (scanL (N + d) l).2.2 = (scanL N l).2.2 + d) := by
  intro n
  induction n with
  | zero => intro l h; omega
  | succ n ih =>
    intro l h
    by_cases hl : l = []
    · subst hl; exact ⟨rfl, rfl, fun h => absurd rfl h⟩
    · by_cases he : (next l).2 = 0
      · have ht := next_text hl he
        have hp := pass_len (l.drop (next l).1.text.length)
        have hd : (l.drop (next l).1.text.length).length < l.length := by rw [List.length_drop]; omega
        obtain ⟨i1, i2, i3⟩ := ih (pass (l.drop (next l).1.text.length)) (by omega)
        rw [scanL_good _ hl he, scanL_good _ hl he, i2]
        by_cases hf : (scanL N (pass (l.drop (next l).1.text.length))).2.1 = 0
        · rw [if_neg (fun e => e hf), if_neg (fun e => e hf)]
          refine ⟨?_, rfl, fun e => absurd rfl e⟩
          simp only [List.map_cons, i1]
          congr 1
          unfold shift
          congr 1
          simp only
          omega
        · rw [if_pos hf, if_pos hf]
          exact ⟨rfl, rfl, fun _ => i3 hf⟩
      · rw [scanL_bad _ hl he, scanL_bad _ hl he]
        exact ⟨rfl, rfl, fun _ => by simp only; omega⟩
theorem scanL_bad_nil (N : Nat) : ∀ (n : Nat) (l : Bs), l.length < n → (scanL N l).2.1 ≠ 0 → (scanL N l).1 = [] := by
  intro n
  induction n with
  | zero => intro l h; omega
  | succ n ih =>
    intro l h hb
    by_cases hl : l = []
    · subst hl; rfl
    · by_cases he : (next l).2 = 0
      · rw [scanL_good _ hl he] at hb ⊢
        split
        · rfl
        · rename_i hf
          rw [if_neg hf] at hb
          exact absurd rfl hb
      · rw [scanL_bad _ hl he]
theorem scanL_ok (N : Nat) (l : Bs) (h : (scanL N l).2.1 = 0) : scanL N l = ((scanL N l).1, 0, 0) := by
  by_cases hl : l = []
  · subst hl; rfl
  · by_cases he : (next l).2 = 0
    · rw [scanL_good _ hl he] at h ⊢
      split
      · rename_i hf; rw [if_pos hf] at h; exact absurd h hf
      · rfl
    · rw [scanL_bad _ hl he] at h; exact absurd h he
/-- the tokens of l, a line's end, and b -/
theorem scanL_append (N : Nat) (b : Bs) : ∀ (n : Nat) (l : Bs), l.length < n → l ≠ [] →
    scanL (N + (1 + b.length)) (l ++ 10 :: b) =
      if (scanL N l).2.1 ≠ 0 then ([], (scanL N l).2.1, (scanL N l).2.2)
      else if (scanL (N + (1 + b.length)) (pass b)).2.1 ≠ 0 then ([], (scanL (N + (1 + b.length)) (pass b)).2.1, (scanL (N + (1 + b.length)) (pass b)).2.2)
      else ((scanL N l).1 ++ (scanL (N + (1 + b.length)) (pass b)).1, 0, 0) := by
  intro n
  induction n with
  | zero => intro l h; omega
  | succ n ih =>
    intro l h hl
    have hne : l ++ 10 :: b ≠ [] := by simp
    have hlen : (l ++ 10 :: b).length = l.length + (1 + b.length) := by simp; omega
    by_cases he : (next l).2 = 0
    · have ht := next_text hl he
      have hp := pass_len (l.drop (next l).1.text.length)
      have hd : (l.drop (next l).1.text.length).length < l.length := by rw [List.length_drop]; omega
      have he' : (next (l ++ 10 :: b)).2 = 0 := by rw [next_append hl]; exact he
      rw [scanL_good _ hl he, scanL_good _ hne he', next_append hl, drop_append_le ht.2.2, pass_append _ _ _ (Nat.lt_succ_self _)]
      have hat : (((N + (1 + b.length) : Nat) : Int) - ((l ++ 10 :: b).length : Int)) = (N : Int) - l.length := by rw [hlen]; omega
      rw [hat]
      by_cases hm : pass (l.drop (next l).1.text.length) = []
      · rw [if_pos hm, hm, scanL_nil]
        simp only [ne_eq, not_true_eq_false, if_false, List.nil_append, List.cons_append]
      · rw [if_neg hm, ih _ (by omega) hm]
        by_cases hf : (scanL N (pass (l.drop (next l).1.text.length))).2.1 = 0
        · simp only [hf, ne_eq, not_true_eq_false, if_false]
          by_cases hg : (scanL (N + (1 + b.length)) (pass b)).2.1 = 0
          · simp only [hg, not_true_eq_false, if_false, List.cons_append]
          · simp only [hg, not_false_eq_true, if_true]
        · simp only [hf, ne_eq, not_false_eq_true, if_true]
    · have he' : (next (l ++ 10 :: b)).2 ≠ 0 := by rw [next_append hl]; exact he
      rw [scanL_bad _ hl he, scanL_bad _ hne he', next_append hl, hlen]
      simp only [he, ne_eq, not_false_eq_true, if_true]
      congr 2
      omega
def strip (t : Tok) : Tok := { t with at_ := 0 }
theorem strip_shift (d : Int) (t : Tok) : strip (shift d t) = strip t := rfl
theorem map_strip_shift (d : Int) (l : List Tok) : (l.map (shift d)).map strip = l.map strip := by
  rw [List.map_map]; rfl
theorem scan_small {l : Bs} (h : l.length ≤ 4096) : scan l = scanL l.length (pass l) := by
  unfold scan
  rw [if_neg (by omega)]
  have := pass_len l
  exact scanF_fuel _ _ _ _ (by omega) (by omega)
theorem scan_big {l : Bs} (h : 4096 < l.length) : scan l = ([], 3, 0) := by
  unfold scan; rw [if_pos h]
/-- two texts with a line's end between -/
theorem scan_join (a b : Bs) (ha : a.length ≤ 2000) (hb : b.length ≤ 2000) :
    ((scan a).2.1 ≠ 0 → (scan (a ++ 10 :: b)).1 = [] ∧ (scan (a ++ 10 :: b)).2.1 = (scan a).2.1 ∧ (scan (a ++ 10 :: b)).2.2 = (scan a).2.2) ∧
    ((scan a).2.1 = 0 → (scan b).2.1 ≠ 0 → (scan (a ++ 10 :: b)).1 = [] ∧ (scan (a ++ 10 :: b)).2.1 = (scan b).2.1 ∧ (scan (a ++ 10 :: b)).2.2 = (scan b).2.2 + a.length + 1) ∧
    ((scan a).2.1 = 0 → (scan b).2.1 = 0 → (scan (a ++ 10 :: b)).2.1 = 0 ∧ (scan (a ++ 10 :: b)).1.map strip = ((scan a).1 ++ (scan b).1).map strip) := by
  have hlen : (a ++ 10 :: b).length = a.length + (1 + b.length) := by simp; omega
  have hc : a.length + (1 + b.length) = b.length + (a.length + 1) := by omega
  rw [scan_small (l := a) (by omega), scan_small (l := b) (by omega), scan_small (l := a ++ 10 :: b) (by omega), hlen, pass_append _ _ _ (Nat.lt_succ_self _)]
  obtain ⟨s1, s2, s3⟩ := scanL_shift b.length (a.length + 1) _ (pass b) (Nat.lt_succ_self _)
  rw [← hc] at s1 s2 s3
  have nilb := scanL_bad_nil (a.length + (1 + b.length)) _ (pass b) (Nat.lt_succ_self _)
  by_cases hm : pass a = []
  · rw [if_pos hm, hm, scanL_nil, s1, s2]
    refine ⟨fun h => absurd rfl h, fun _ h => ⟨?_, rfl, ?_⟩, fun _ h => ⟨h, ?_⟩⟩
    · rw [← s1]; exact nilb (by rw [s2]; exact h)
    · rw [s3 h]; simp only [Int.natCast_add, Int.natCast_one]; omega
    · rw [map_strip_shift]; rfl
  · rw [if_neg hm, scanL_append _ _ _ _ (Nat.lt_succ_self _) hm]
    by_cases hf : (scanL a.length (pass a)).2.1 = 0
    · rw [if_neg (fun h => h hf), s2]
      refine ⟨fun h => absurd hf h, fun _ h => ?_, fun _ h => ?_⟩
      · rw [if_pos h]
        exact ⟨rfl, rfl, by simp only; rw [s3 h]; simp only [Int.natCast_add, Int.natCast_one]; omega⟩
      · rw [if_neg (fun e => e h), s1]
        refine ⟨rfl, ?_⟩
        simp only [List.map_append, map_strip_shift]
    · rw [if_pos hf]
      exact ⟨fun _ => ⟨rfl, rfl, rfl⟩, fun h => absurd h hf, fun h => absurd h hf⟩
/-! places -/
def gap : Bool → Bs → Bool
  | _, [] => true
  | r, c :: l =>
    let r2 := (if c = 10 then false else r) || (c == 45 && l.head? == some 45)
    (r2 || blank c.toNat) && gap r2 l
theorem gap_blanks (x y : Bs) (h : ∀ c ∈ x, bp blank c = true) : gap false (x ++ y) = gap false y := by
  induction x with
  | nil => rfl
  | cons c x ih =>
    have hc := h c (by simp)
    have ih' := ih (fun d hd => h d (by simp [hd]))
    have h45 : (c == 45) = false := by
      rcases hq : (c == 45) with _ | _
      · rfl
      · rw [beq_iff_eq] at hq; subst hq; exact absurd hc (by decide)
    simp only [List.cons_append, gap, h45, Bool.false_and, Bool.or_false]
    have e : (if c = 10 then false else false) = false := by split <;> rfl
    rw [e, ih']
    unfold bp at hc
    rw [hc]; rfl
theorem gap_remark (x y : Bs) (h : ∀ c ∈ x, bp other c = true) : gap true (x ++ y) = gap true y := by
  induction x with
  | nil => rfl
  | cons c x ih =>
    have hc := h c (by simp)
    have ih' := ih (fun d hd => h d (by simp [hd]))
    have h10 : c ≠ 10 := by rintro rfl; exact absurd hc (by decide)
    simp only [List.cons_append, gap, h10, if_false, Bool.true_or, ih', Bool.true_and]
theorem gap_nl (y : Bs) (h : y.head? = none ∨ y.head? = some 10) : gap true y = gap false y := by
  cases y with
  | nil => rfl
  | cons c y =>
    have hc : c = 10 := by simpa using h
    subst hc
    simp [gap]
theorem mem_tw (p : UInt8 → Bool) (x : Bs) : ∀ c ∈ x.takeWhile p, p c = true := by
  have := List.all_takeWhile (p := p) (l := x)
  rw [List.all_eq_true] at this
  exact this
theorem pass_gap : ∀ (n : Nat) (x : Bs), x.length < n → ∃ g, x = g ++ pass x ∧ gap false g = true := by
  intro n
  induction n with
  | zero => intro x h; omega
  | succ n ih =>
    intro x h
    have hx : x = x.takeWhile (bp blank) ++ x.dropWhile (bp blank) := (List.takeWhile_append_dropWhile).symm
    have hbl := mem_tw (bp blank) x
    by_cases ht : (x.dropWhile (bp blank)).take 2 = [45, 45]
    · rw [pass_eq, if_pos ht]
      have a := other_drop ht
      have b := dropWhile_len (bp blank) x
      obtain ⟨g, hg, hgap⟩ := ih ((x.dropWhile (bp blank)).dropWhile (bp other)) (by omega)
      refine ⟨x.takeWhile (bp blank) ++ ((x.dropWhile (bp blank)).takeWhile (bp other) ++ g), ?_, ?_⟩
      · rw [List.append_assoc, List.append_assoc, ← hg, List.takeWhile_append_dropWhile, ← hx]
      · rw [gap_blanks _ _ hbl]
        have hoth := mem_tw (bp other) (x.dropWhile (bp blank))
        have hnl : g.head? = none ∨ g.head? = some 10 := by
          have h1 := List.head?_dropWhile_not (bp other) (x.dropWhile (bp blank))
          rw [hg] at h1
          cases g with
          | nil => exact .inl rfl
          | cons c g =>
            right
            have h2 : bp other c = false := by simpa using h1
            have h3 : c = 10 := by
              have : ((c.toNat : Int) != 10) = false := h2
              have h4 : (c.toNat : Int) = 10 := by simpa using this
              have h5 : c.toNat = 10 := by omega
              exact UInt8.toNat_inj.1 h5
            rw [h3]; rfl
        generalize hm : x.dropWhile (bp blank) = m at *
        match m, ht with
        | c :: d :: m, ht =>
          simp only [List.take_succ_cons, List.take_zero, List.cons.injEq, and_true] at ht
          obtain ⟨rfl, rfl⟩ := ht
          have e : bp other 45 = true := by decide
          rw [List.takeWhile_cons_of_pos e, List.takeWhile_cons_of_pos e] at hoth ⊢
          have e1 : gap false (45 :: 45 :: (m.takeWhile (bp other) ++ g)) = gap true (45 :: (m.takeWhile (bp other) ++ g)) := by
            simp [gap]
          show gap false (45 :: 45 :: (m.takeWhile (bp other) ++ g)) = true
          rw [e1]
          have e2 := gap_remark (45 :: m.takeWhile (bp other)) g (fun c hc => hoth c (List.mem_cons_of_mem _ hc))
          exact e2.trans ((gap_nl g hnl).trans hgap)
    · refine ⟨x.takeWhile (bp blank), ?_, ?_⟩
      · rw [pass_eq, if_neg ht]; exact hx
      · have := gap_blanks _ [] hbl
        rw [List.append_nil] at this
        rw [this]; rfl
/-- the tokens of a text stand one behind the other from place e on, with gaps between -/
def Places (s : Bs) : Nat → List Tok → Prop
  | e, [] => e ≤ s.length ∧ gap false (s.drop e) = true
  | e, t :: r => ∃ p : Nat, t.at_ = p ∧ e ≤ p ∧ 0 < t.text.length ∧ p + t.text.length ≤ s.length ∧ t.text = (s.drop p).take t.text.length ∧ gap false ((s.drop e).take (p - e)) = true ∧ Places s (p + t.text.length) r
/-- from a place e on, the rest y being what a pass leaves of x = s.drop e -/
theorem places_scan (s : Bs) : ∀ (n : Nat) (e : Nat), s.length - e < n → e ≤ s.length →
    ((scanL s.length (pass (s.drop e))).2.1 = 0 → Places s e (scanL s.length (pass (s.drop e))).1) ∧
    ((scanL s.length (pass (s.drop e))).2.1 ≠ 0 → 0 ≤ (scanL s.length (pass (s.drop e))).2.2 ∧ (scanL s.length (pass (s.drop e))).2.2 < s.length) := by
  intro n
  induction n with
  | zero => intro e h; omega
  | succ n ih =>
    intro e h he
    obtain ⟨g, hg, hgap⟩ := pass_gap _ (s.drop e) (Nat.lt_succ_self _)
    generalize hy : pass (s.drop e) = y at *
    have hlen : s.length - e = g.length + y.length := by
      have := congrArg List.length hg
      rw [List.length_drop, List.length_append] at this
      exact this
    by_cases hl : y = []
    · subst hl
      rw [scanL_nil]
      refine ⟨fun _ => ⟨he, ?_⟩, fun h => absurd rfl h⟩
      rw [hg, List.append_nil]; exact hgap
    · have hyp : 0 < y.length := List.length_pos_iff.2 hl
      have hyd : s.drop (e + g.length) = y := by
        rw [← List.drop_drop, hg, List.drop_left]
      have hgt : (s.drop e).take (e + g.length - e) = g := by
        rw [hg, Nat.add_sub_cancel_left, List.take_left]
      have hat : ((s.length : Int) - y.length) = ((e + g.length : Nat) : Int) := by omega
      by_cases hn : (next y).2 = 0
      · have ht := next_text hl hn
        have hdr : y.drop (next y).1.text.length = s.drop (e + g.length + (next y).1.text.length) := by
          rw [← hyd, List.drop_drop]
        have hih := ih (e + g.length + (next y).1.text.length) (by omega) (by omega)
        rw [← hdr] at hih
        rw [scanL_good _ hl hn]
        by_cases hf : (scanL s.length (pass (y.drop (next y).1.text.length))).2.1 = 0
        · rw [if_neg (fun h => h hf)]
          refine ⟨fun _ => ⟨e + g.length, ?_, by omega, ht.2.1, ?_, ?_, ?_, ?_⟩, fun h => absurd rfl h⟩
          · exact hat
          · show e + g.length + (next y).1.text.length ≤ s.length
            omega
          · rw [hyd]; exact ht.1
          · rw [hgt]; exact hgap
          · exact hih.1 hf
        · rw [if_pos hf]
          exact ⟨fun h => absurd h hf, fun _ => hih.2 hf⟩
      · rw [scanL_bad _ hl hn]
        refine ⟨fun h => absurd h hn, fun _ => ?_⟩
        simp only
        omega
theorem scan_places (s : Bs) (h : s.length ≤ 4096) :
    ((scan s).2.1 = 0 → Places s 0 (scan s).1) ∧ ((scan s).2.1 ≠ 0 → 0 ≤ (scan s).2.2 ∧ (scan s).2.2 < s.length) := by
  have := places_scan s _ 0 (Nat.lt_succ_self _) (Nat.zero_le _)
  rw [scan_small h]
  simpa using this
theorem scan_bad_nil (s : Bs) (h : (scan s).2.1 ≠ 0) : (scan s).1 = [] := by
  by_cases hs : 4096 < s.length
  · rw [scan_big hs]
  · rw [scan_small (by omega)] at h ⊢
    exact scanL_bad_nil _ _ _ (Nat.lt_succ_self _) h
/-! writing back -/
def Good (t : Bs) : Prop := t ≠ [] ∧ (next t).2 = 0 ∧ (next t).1.text = t ∧ (∀ b, next (t ++ 32 :: b) = next t) ∧ (∀ b, pass (t ++ 32 :: b) = t ++ 32 :: b) ∧ pass t = t
theorem no_sp : ∀ m ∈ marks, (32 : UInt8) ∉ m := by decide
theorem mark_sp {c : UInt8} : isMark [c, 32] = false := by
  rcases h : isMark [c, 32] with _ | _
  · rfl
  · unfold isMark at h
    have := no_sp _ (List.contains_iff_mem.1 h)
    simp at this
theorem hd_append_sp {p : Int → Bool} (hp : p 32 = false) (l b : Bs) : hd p (l ++ 32 :: b) = hd p l := by
  unfold hd
  rw [List.takeWhile_append]
  split
  · have e : bp p 32 = false := hp
    rw [List.takeWhile_cons_of_neg (by simp [e])]
    rename_i h
    rw [List.append_nil]
    exact (List.IsPrefix.eq_of_length (List.takeWhile_prefix _) h).symm
  · rfl
theorem next_append_sp {l : Bs} (h : l ≠ []) (b : Bs) : next (l ++ 32 :: b) = next l := by
  match l, h with
  | c :: l, _ =>
    have e0 : (c :: l ++ 32 :: b).headD 0 = c := rfl
    have e1 : (c :: l).headD 0 = c := rfl
    have e2 : (c :: l ++ 32 :: b).take 1 = (c :: l).take 1 := rfl
    have e3 : (2 ≤ (c :: l ++ 32 :: b).length ∧ isMark ((c :: l ++ 32 :: b).take 2) = true) ↔ (2 ≤ (c :: l).length ∧ isMark ((c :: l).take 2) = true) := by
      match l with
      | [] => simp [mark_sp]
      | d :: l => simp
    have e4 : 2 ≤ (c :: l).length ∧ isMark ((c :: l).take 2) = true → (c :: l ++ 32 :: b).take 2 = (c :: l).take 2 := by
      match l with
      | [] => simp
      | d :: l => simp
    unfold next
    rw [e0, e1, e2, hd_append_sp (by decide), hd_append_sp (by decide)]
    by_cases h3 : 2 ≤ (c :: l).length ∧ isMark ((c :: l).take 2) = true
    · rw [if_pos (e3.2 h3), if_pos h3, e4 h3]
    · rw [if_neg (fun e => h3 (e3.1 e)), if_neg h3]
theorem hd_hd (p : Int → Bool) (l : Bs) : hd p (hd p l) = hd p l := by
  unfold hd
  have := mem_tw (bp p) l
  generalize l.takeWhile (bp p) = m at *
  induction m with
  | nil => rfl
  | cons c m ih => rw [List.takeWhile_cons_of_pos (this c (by simp)), ih (fun d hd => this d (by simp [hd]))]
theorem hd_headD {p : Int → Bool} {l : Bs} (h : 0 < (hd p l).length) : (hd p l).headD 0 = l.headD 0 := by
  unfold hd at *
  cases l with
  | nil => rfl
  | cons c l =>
    by_cases hc : bp p c = true
    · rw [List.takeWhile_cons_of_pos hc]; rfl
    · rw [List.takeWhile_cons_of_neg hc] at h; simp at h
theorem marks_len : ∀ m ∈ marks, m.length ≤ 2 := by decide
theorem next_letter {l : Bs} (h : bp letter (l.headD 0) = true) : next l =
    if isWord (hd inner l) then (⟨3, hd inner l, 0, 0⟩, 0) else if 16 < (hd inner l).length then (⟨1, hd inner l, 0, 0⟩, 3) else (⟨1, hd inner l, 0, 0⟩, 0) := by
  unfold next; rw [if_pos h]
theorem next_digit {l : Bs} (h1 : bp letter (l.headD 0) = false) (h : bp digit (l.headD 0) = true) : next l =
    if readOk (hd digit l) then (⟨2, hd digit l, numVal (hd digit l), 0⟩, 0) else (⟨2, hd digit l, 0, 0⟩, 16) := by
  unfold next; rw [h1, if_neg (by decide), if_pos h]
theorem next_mark {l : Bs} (h1 : bp letter (l.headD 0) = false) (h2 : bp digit (l.headD 0) = false) : next l =
    if 2 ≤ l.length ∧ isMark (l.take 2) then (⟨4, l.take 2, 0, 0⟩, 0) else if isMark (l.take 1) then (⟨4, l.take 1, 0, 0⟩, 0) else (⟨0, [], 0, 0⟩, 15) := by
  unfold next; rw [h1, h2, if_neg (by decide), if_neg (by decide)]
theorem marks_self : ∀ m ∈ marks, next m = (⟨4, m, 0, 0⟩, 0) := by
  have h : ∀ m ∈ marks, bp letter (m.headD 0) = false ∧ bp digit (m.headD 0) = false ∧ (if 2 ≤ m.length ∧ isMark (m.take 2) then m.take 2 = m else m.take 1 = m ∧ isMark (m.take 1) = true) := by decide
  intro m hm
  obtain ⟨h1, h2, h3⟩ := h m hm
  rw [next_mark h1 h2]
  split
  · rename_i hc
    rw [if_pos hc] at h3
    rw [h3]
  · rename_i hc
    rw [if_neg hc] at h3
    rw [h3.1, if_pos (by rw [← h3.1]; exact h3.2)]
theorem marks_ok : ∀ m ∈ marks, m ≠ [] ∧ (∀ c ∈ m, bp blank c = false) ∧ m ≠ [45, 45] := by decide
theorem letter_nb : ∀ c : UInt8, bp letter c = true → bp blank c = false ∧ c ≠ 45 := by
  intro c h
  unfold bp letter at h
  unfold bp blank
  simp only [Bool.and_eq_true, decide_eq_true_eq] at h
  refine ⟨?_, by rintro rfl; simp at h⟩
  simp only [Bool.or_eq_false_iff, beq_eq_false_iff_ne]
  omega
theorem digit_nb : ∀ c : UInt8, bp digit c = true → bp blank c = false ∧ c ≠ 45 := by
  intro c h
  unfold bp digit at h
  unfold bp blank
  simp only [Bool.and_eq_true, decide_eq_true_eq] at h
  refine ⟨?_, by rintro rfl; simp at h⟩
  simp only [Bool.or_eq_false_iff, beq_eq_false_iff_ne]
  omega
theorem good_of {t : Bs} (h0 : t ≠ []) (h1 : (next t).2 = 0) (h2 : (next t).1.text = t) (hb : bp blank (t.headD 0) = false) (h45 : t.take 2 ≠ [45, 45]) : Good t := by
  have h45' : ∀ b : Bs, (t ++ 32 :: b).take 2 ≠ [45, 45] := by
    intro b
    match t, h0, h45 with
    | [c], _, _ => simp
    | c :: d :: r, _, h => simpa using h
  refine ⟨h0, h1, h2, next_append_sp h0, fun b => pass_same ?_ (h45' b), pass_same ?_ h45⟩
  · intro c r hc
    match t, h0, hb with
    | d :: t, _, hb =>
      simp only [List.cons_append, List.cons.injEq] at hc
      rw [← hc.1]; exact hb
  · intro c r hc
    rw [hc] at hb; exact hb
theorem good_mark {m : Bs} (h : isMark m = true) : Good m ∧ next m = (⟨4, m, 0, 0⟩, 0) := by
  have hm : m ∈ marks := List.contains_iff_mem.1 h
  have a := marks_self m hm
  have b := marks_ok m hm
  refine ⟨good_of b.1 (by rw [a]) (by rw [a]) ?_ ?_, a⟩
  · match m, b with
    | c :: m, b => exact b.2.1 c (by simp)
  · have := marks_len m hm
    rw [List.take_of_length_le this]; exact b.2.2
/-- a token's text is written so that it is read as it was -/
theorem next_good {l : Bs} (hl : l ≠ []) (he : (next l).2 = 0) : Good (next l).1.text ∧ next (next l).1.text = next l := by
  by_cases h1 : bp letter (l.headD 0) = true
  · have hp := hd_pos hl (letter_inner h1)
    have hne : hd inner l ≠ [] := List.length_pos_iff.1 hp
    have hh := hd_headD hp
    have h1' : bp letter ((hd inner l).headD 0) = true := by rw [hh]; exact h1
    have ht : (next l).1.text = hd inner l := by
      rw [next_letter h1]; repeat' (first | rfl | split)
    have hn : next (hd inner l) = next l := by rw [next_letter h1, next_letter h1', hd_hd]
    rw [ht]
    have nb := letter_nb _ h1'
    refine ⟨good_of hne (by rw [hn]; exact he) (by rw [hn]; exact ht) nb.1 ?_, hn⟩
    generalize hd inner l = t at *
    match t, hne, nb with
    | c :: t, _, nb =>
      intro h
      have := congrArg List.head? h
      simp at this
      exact nb.2 this
  · have h1f : bp letter (l.headD 0) = false := by simpa using h1
    by_cases h2 : bp digit (l.headD 0) = true
    · have hp := hd_pos hl h2
      have hne : hd digit l ≠ [] := List.length_pos_iff.1 hp
      have hh := hd_headD hp
      have h2' : bp digit ((hd digit l).headD 0) = true := by rw [hh]; exact h2
      have h1' : bp letter ((hd digit l).headD 0) = false := by rw [hh]; exact h1f
      have ht : (next l).1.text = hd digit l := by
        rw [next_digit h1f h2]; repeat' (first | rfl | split)
      have hn : next (hd digit l) = next l := by rw [next_digit h1f h2, next_digit h1' h2', hd_hd]
      rw [ht]
      have nb := digit_nb _ h2'
      refine ⟨good_of hne (by rw [hn]; exact he) (by rw [hn]; exact ht) nb.1 ?_, hn⟩
      generalize hd digit l = t at *
      match t, hne, nb with
      | c :: t, _, nb =>
        intro h
        have := congrArg List.head? h
        simp at this
        exact nb.2 this
    · have h2f : bp digit (l.headD 0) = false := by simpa using h2
      have hk := next_mark h1f h2f
      by_cases h3 : 2 ≤ l.length ∧ isMark (l.take 2) = true
      · rw [if_pos h3] at hk
        have g := good_mark h3.2
        rw [hk]
        exact g
      · rw [if_neg h3] at hk
        by_cases h4 : isMark (l.take 1) = true
        · rw [if_pos h4] at hk
          have g := good_mark h4
          rw [hk]
          exact g
        · rw [if_neg h4] at hk
          rw [hk] at he
          simp at he
def Fine (t : Tok) : Prop := Good t.text ∧ (next t.text).1 = strip t
theorem scanL_fine (N : Nat) : ∀ (n : Nat) (l : Bs), l.length < n → ∀ t ∈ (scanL N l).1, Fine t := by
  intro n
  induction n with
  | zero => intro l h; omega
  | succ n ih =>
    intro l h
    by_cases hl : l = []
    · subst hl; intro t ht; rw [scanL_nil] at ht; simp at ht
    · by_cases he : (next l).2 = 0
      · have ht := next_text hl he
        have hp := pass_len (l.drop (next l).1.text.length)
        have hd : (l.drop (next l).1.text.length).length < l.length := by rw [List.length_drop]; omega
        rw [scanL_good _ hl he]
        split
        · intro t h; simp at h
        · intro t h
          rcases List.mem_cons.1 h with rfl | h
          · have g := next_good hl he
            refine ⟨g.1, ?_⟩
            show (next (next l).1.text).1 = strip _
            rw [g.2]
            unfold strip
            have := next_at l
            cases hq : (next l).1
            rw [hq] at this
            simp at this
            subst this
            rfl
          · exact ih _ (by omega) t h
      · rw [scanL_bad _ hl he]; intro t h; simp at h
theorem scan_fine (s : Bs) : ∀ t ∈ (scan s).1, Fine t := by
  by_cases hs : 4096 < s.length
  · rw [scan_big hs]; intro t h; simp at h
  · rw [scan_small (by omega)]; exact scanL_fine _ _ _ (Nat.lt_succ_self _)
theorem text_cons (t : Tok) (r : List Tok) : text (t :: r) = if r = [] then t.text else t.text ++ 32 :: text r := by
  cases r with
  | nil => rfl
  | cons u r => rw [if_neg (by simp)]; simp [text]
theorem text_pass : ∀ l : List Tok, (∀ t ∈ l, Fine t) → pass (text l) = text l
  | [], _ => pass_nil
  | t :: r, h => by
    have g := (h t (by simp)).1
    rw [text_cons]
    split
    · exact g.2.2.2.2.2
    · exact g.2.2.2.2.1 _
theorem scanL_text (N : Nat) : ∀ l : List Tok, (∀ t ∈ l, Fine t) → (scanL N (text l)).2 = (0, 0) ∧ (scanL N (text l)).1.map strip = l.map strip
  | [], _ => ⟨rfl, rfl⟩
  | t :: r, h => by
    have f := h t (by simp)
    obtain ⟨h0, h1, h2, h3, h4, h5⟩ := f.1
    have hr : ∀ u ∈ r, Fine u := fun u hu => h u (by simp [hu])
    have ih := scanL_text N r hr
    rw [text_cons]
    by_cases hn : r = []
    · subst hn
      rw [if_pos rfl, scanL_good _ h0 h1, h2, List.drop_length, pass_nil, scanL_nil]
      refine ⟨by simp, ?_⟩
      simp only [ne_eq, not_true_eq_false, if_false, List.map_cons, List.map_nil, f.2]
      rfl
    · rw [if_neg hn]
      have e : next (t.text ++ 32 :: text r) = next t.text := h3 _
      rw [scanL_good _ (by simp) (by rw [e]; exact h1), e, h2, List.drop_left, pass_blank (by decide), text_pass r hr, ih.1]
      refine ⟨by simp, ?_⟩
      simp only [ne_eq, not_true_eq_false, if_false, List.map_cons, ih.2, f.2]
      rfl
theorem text_strip : ∀ l m : List Tok, l.map strip = m.map strip → text l = text m
  | [], [], _ => rfl
  | [], _ :: _, h => by simp at h
  | _ :: _, [], h => by simp at h
  | t :: l, u :: m, h => by
    simp only [List.map_cons, List.cons.injEq] at h
    have ht : t.text = u.text := by have := congrArg Tok.text h.1; exact this
    have hl := text_strip l m h.2
    rw [text_cons, text_cons, ht, hl]
    have : l = [] ↔ m = [] := by
      have := congrArg List.length h.2
      simp only [List.length_map] at this
      constructor
      · rintro rfl; exact List.length_eq_zero_iff.1 (by simpa using this.symm)
      · rintro rfl; exact List.length_eq_zero_iff.1 (by simpa using this)
    by_cases hm : m = []
    · rw [if_pos hm, if_pos (this.2 hm)]
    · rw [if_neg hm, if_neg (fun e => hm (this.1 e))]
/-- what is written of a text's tokens has the same tokens -/
theorem scan_back (s : Bs) : ((text (scan s).1).length ≤ 4096 → (scan (text (scan s).1)).2.1 = 0 ∧ (scan (text (scan s).1)).1.map strip = (scan s).1.map strip ∧ text (scan (text (scan s).1)).1 = text (scan s).1) ∧
    (4096 < (text (scan s).1).length → (scan (text (scan s).1)).2.1 = 3) := by
  have hf := scan_fine s
  constructor
  · intro h
    rw [scan_small h, text_pass _ hf]
    have a := scanL_text (text (scan s).1).length _ hf
    exact ⟨by rw [a.1], a.2, text_strip _ _ a.2⟩
  · intro h
    rw [scan_big h]
end Go.Proofs.Ytilkilffkjhhbaa.Lx
