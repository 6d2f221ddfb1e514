/-
  A program's tokens are read alike wherever they stand; a text's tokens with blanks between; brackets. Plain Lean, no program in sight.
-/
import Derived.Test.YtilkilffkjhhbaaTrL12
import Derived.Test.YtilkilffkjhhbaaTrPse
namespace Go.Proofs.Ytilkilffkjhhbaa.Tr
set_option maxRecDepth 20000
set_option linter.unusedVariables false
open Lx (Bs Tok)

section
variable (ts : List Tok)
theorem declP_strip (s : St) : declP (stripL ts) s = declP ts s := by unfold declP; simp only [sees_strip, need_strip, name_strip]
theorem declsF_strip : ∀ (f : Nat) (s : St), declsF (stripL ts) f s = declsF ts f s
  | 0, _ => by rw [declsF, declsF]
  | f + 1, s => by rw [declsF, declsF]; simp only [sees_strip, need_strip, declP_strip, declsF_strip f]
theorem declsP_strip (s : St) : declsP (stripL ts) s = declsP ts s := by unfold declsP declsL; simp only [sees_strip, need_strip, stripL_len, declsF_strip]
theorem ownP_strip (s : St) : ownP (stripL ts) s = ownP ts s := by unfold ownP; simp only [sees_strip, need_strip, name_strip, declP_strip]
theorem ownsF_strip : ∀ (f : Nat) (s : St), ownsF (stripL ts) f s = ownsF ts f s
  | 0, _ => by rw [ownsF, ownsF]
  | f + 1, s => by rw [ownsF, ownsF]; simp only [sees_strip, ownP_strip, ownsF_strip f]
theorem localsP_strip (s : St) : localsP (stripL ts) s = localsP ts s := by unfold localsP ownsL; simp only [sees_strip, stripL_len, ownsF_strip]
theorem headP_strip (s : St) : headP (stripL ts) s = headP ts s := by unfold headP; simp only [need_strip, name_strip, declsP_strip, localsP_strip]
theorem litP_strip (s : St) (m : Bool) (x : Ex) : litP (stripL ts) s m x = litP ts s m x := by unfold litP; simp only [sees_strip]
theorem firstP_strip (s : St) : firstP (stripL ts) s = firstP ts s := by unfold firstP; simp only [sees_strip, isKind_strip, tok_strip, litP_strip, Lx.strip]
theorem eqP_strip (s : St) : eqP (stripL ts) s = eqP ts s := by
  unfold eqP
  simp only [sees_strip, need_strip, name_strip, firstP_strip, P_strip]
theorem eqsF_strip (N M : Int) : ∀ (f : Nat) (s : St), ((eqsF (stripL ts) N f s).1.map (·.1) = (eqsF ts M f s).1.map (·.1)) ∧ (eqsF (stripL ts) N f s).2 = (eqsF ts M f s).2
  | 0, _ => by rw [eqsF, eqsF]; exact ⟨rfl, rfl⟩
  | f + 1, s => by
    have ih := eqsF_strip N M f (eqP ts s).2
    rw [eqsF, eqsF]
    simp only [sees_strip, eqP_strip]
    split
    · exact ⟨rfl, rfl⟩
    · split
      · exact ⟨rfl, rfl⟩
      · split
        · exact ⟨rfl, rfl⟩
        · split
          · exact ⟨rfl, rfl⟩
          · exact ⟨ih.1, by rw [ih.2]⟩
theorem parseT_strip (N M : Int) : (parseT (stripL ts) N).1 = (parseT ts M).1 ∧ (parseT (stripL ts) N).2.1 = (parseT ts M).2.1 := by
  have h := eqsF_strip ts N M (ts.length - (headP ts ⟨0, false⟩).2.at_ + 1) (headP ts ⟨0, false⟩).2
  unfold parseT eqsL
  rw [stripL_len, headP_strip]
  obtain ⟨h1, h2⟩ := h
  generalize eqsF (stripL ts) N (ts.length - (headP ts ⟨0, false⟩).2.at_ + 1) (headP ts ⟨0, false⟩).2 = a at *
  generalize eqsF ts M (ts.length - (headP ts ⟨0, false⟩).2.at_ + 1) (headP ts ⟨0, false⟩).2 = b at *
  obtain ⟨a1, a2⟩ := a
  obtain ⟨b1, b2⟩ := b
  dsimp only at h1 h2
  subst h2
  cases a1 with
  | none =>
    cases b1 with
    | none =>
      dsimp only
      split <;> exact ⟨rfl, rfl⟩
    | some b => simp at h1
  | some a =>
    cases b1 with
    | none => simp at h1
    | some b =>
      simp only [Option.map_some, Option.some.injEq] at h1
      obtain ⟨a, _⟩ := a
      obtain ⟨b, _⟩ := b
      exact ⟨rfl, h1⟩
end
/-- texts of the same tokens are read alike -/
theorem parse_alike {l m : Bs} (h1 : (Lx.scan l).2.1 = 0) (h2 : (Lx.scan m).2.1 = 0) (h : (Lx.scan l).1.map Lx.strip = (Lx.scan m).1.map Lx.strip) : (parse l).1 = (parse m).1 ∧ (parse l).2.1 = (parse m).2.1 := by
  unfold parse
  rw [if_neg (fun e => e h1), if_neg (fun e => e h2)]
  obtain ⟨a1, a2⟩ := parseT_strip (Lx.scan l).1 0 (l.length : Int)
  obtain ⟨b1, b2⟩ := parseT_strip (Lx.scan m).1 0 (m.length : Int)
  have e : stripL (Lx.scan l).1 = stripL (Lx.scan m).1 := h
  rw [← a1, ← a2, ← b1, ← b2, e]
  exact ⟨rfl, rfl⟩
/-! blanks between tokens -/
def sep (i : Nat) : Bs := if i % 3 = 0 then [32, 9] else [10]
def jn : Nat → List Tok → Bs
  | _, [] => []
  | i, t :: r => t.text ++ (sep i ++ jn (i + 1) r)
theorem jn_snoc : ∀ (l : List Tok) (i : Nat) (t : Tok), jn i (l ++ [t]) = jn i l ++ (t.text ++ sep (i + l.length))
  | [], i, t => by simp [jn]
  | u :: r, i, t => by
    have := jn_snoc r (i + 1) t
    rw [List.cons_append, jn, jn, this]
    have e : i + 1 + r.length = i + (u :: r).length := by simp; omega
    rw [e]
    simp
theorem reads_tok {t k : Bs} {tk : Tok} {ts : List Tok} (h0 : t ≠ []) (hp : Lx.pass (t ++ k) = t ++ k) (hn : Lx.next (t ++ k) = (tk, 0)) (ht : tk.text = t) (hr : Reads k ts) : Reads (t ++ k) (tk :: ts) := by
  intro N
  have ha : tk.at_ = 0 := by
    have := Lx.next_at (t ++ k)
    rw [hn] at this
    exact this
  rw [hp, Lx.scanL_good N (by simp [h0]) (by rw [hn]), hn]
  simp only
  rw [ht, List.drop_left, (hr N).1]
  refine ⟨by simp, ?_⟩
  simp only [ne_eq, not_true_eq_false, if_false, List.map_cons, (hr N).2]
  obtain ⟨a, b, c, d⟩ := tk
  simp only at ha ht
  subst ha ht
  rfl
theorem reads_jn : ∀ (l : List Tok) (i : Nat), (∀ t ∈ l, Lx.Fine t) → Reads (jn i l) (l.map Lx.strip)
  | [], _, _ => reads_nil
  | t :: r, i, h => by
    have f := h t (by simp)
    obtain ⟨h0, h1, h2, h3, h4, h5⟩ := f.1
    have ih := reads_jn r (i + 1) (fun u hu => h u (by simp [hu]))
    have hnx : Lx.next t.text = (Lx.strip t, 0) := Prod.ext f.2 h1
    rw [jn, List.map_cons]
    unfold sep
    split
    · exact reads_tok h0 (h4 _) ((h3 _).trans hnx) rfl (reads_sp (reads_blank (by decide) ih))
    · refine reads_tok h0 ?_ ((Lx.next_append h0 _).trans hnx) rfl (reads_nl ih)
      show Lx.pass (t.text ++ 10 :: jn (i + 1) r) = t.text ++ 10 :: jn (i + 1) r
      rw [Lx.pass_append _ _ _ (Nat.lt_succ_self _), h5, if_neg h0]
def off3 (p : Nat) : Nat := if p = 0 then 2 else if p = 1 then 0 else 1
theorem text_sum : ∀ l : List Tok, (∀ t ∈ l, Lx.Fine t) → ∀ i, (jn i l).length ≤ (l.map fun t => t.text.length).sum + l.length + (l.length + off3 (i % 3)) / 3
  | [], _, i => by simp [jn]
  | t :: r, h, i => by
    have ih := text_sum r (fun u hu => h u (by simp [hu])) (i + 1)
    rw [jn]
    simp only [List.length_append, List.map_cons, List.sum_cons, List.length_cons]
    have hs : (sep i).length = if i % 3 = 0 then 2 else 1 := by unfold sep; split <;> rfl
    rw [hs]
    have h3 : i % 3 = 0 ∨ i % 3 = 1 ∨ i % 3 = 2 := by omega
    have o0 : off3 0 = 2 := rfl
    have o1 : off3 1 = 0 := rfl
    have o2 : off3 2 = 1 := rfl
    rcases h3 with h3 | h3 | h3
    · have e : (i + 1) % 3 = 1 := by omega
      rw [e, o1] at ih
      rw [h3, if_pos rfl, o0]
      omega
    · have e : (i + 1) % 3 = 2 := by omega
      rw [e, o2] at ih
      rw [h3, if_neg (by decide), o1]
      omega
    · have e : (i + 1) % 3 = 0 := by omega
      rw [e, o0] at ih
      rw [h3, if_neg (by decide), o2]
      omega
theorem scanL_sum (N : Nat) : ∀ (n : Nat) (l : Bs), l.length < n → ((Lx.scanL N l).1.map fun t => t.text.length).sum ≤ l.length := by
  intro n
  induction n with
  | zero => intro l h; omega
  | succ n ih =>
    intro l h
    by_cases hl : l = []
    · subst hl; rw [Lx.scanL_nil]; simp
    · by_cases he : (Lx.next l).2 = 0
      · have ht := Lx.next_text hl he
        have hp := Lx.pass_len (l.drop (Lx.next l).1.text.length)
        have hd : (l.drop (Lx.next l).1.text.length).length = l.length - (Lx.next l).1.text.length := by rw [List.length_drop]
        rw [Lx.scanL_good _ hl he]
        split
        · simp
        · simp only [List.map_cons, List.sum_cons]
          have := ih (Lx.pass (l.drop (Lx.next l).1.text.length)) (by omega)
          omega
      · rw [Lx.scanL_bad _ hl he]; simp
/-- the text of a text's tokens with blanks between -/
theorem spaces {s : Bs} (hs : s.length ≤ 1500) (he : (Lx.scan s).2.1 = 0) : (jn 0 (Lx.scan s).1).length ≤ 4000 ∧ (Lx.scan (jn 0 (Lx.scan s).1)).2.1 = 0 ∧ (parse s).1 = (parse (jn 0 (Lx.scan s).1)).1 ∧ (parse s).2.1 = (parse (jn 0 (Lx.scan s).1)).2.1 := by
  have hf := Lx.scan_fine s
  have h1 : ((Lx.scan s).1.map fun t => t.text.length).sum ≤ 1500 := by
    rw [Lx.scan_small (by omega)]
    have := scanL_sum s.length _ (Lx.pass s) (Nat.lt_succ_self _)
    have := Lx.pass_len s
    omega
  have h3 : (Lx.scan s).1.length ≤ 1500 := by
    have : (Lx.scan s).1.length ≤ ((Lx.scan s).1.map fun t => t.text.length).sum := by
      generalize (Lx.scan s).1 = l at *
      clear h1
      induction l with
      | nil => simp
      | cons t r ih =>
        have h0 := (hf t (by simp)).1.1
        have := List.length_pos_iff.2 h0
        have := ih (fun u hu => hf u (by simp [hu]))
        simp only [List.length_cons, List.map_cons, List.sum_cons]
        omega
    omega
  have h2 := text_sum _ hf 0
  have ho : off3 (0 % 3) = 2 := rfl
  have hl : (jn 0 (Lx.scan s).1).length ≤ 4000 := by omega
  have hr := (reads_jn _ 0 hf).scan (by omega)
  have h4 : (Lx.scan (jn 0 (Lx.scan s).1)).2.1 = 0 := by rw [hr.1]
  exact ⟨hl, h4, parse_alike he h4 hr.2.symm⟩
/-! brackets -/
def brk : Nat → Bs → Bs
  | 0, t => t
  | n + 1, t => [40] ++ brk n t ++ [41]
def brkT : Nat → List Tok → List Tok
  | 0, t => t
  | n + 1, t => mk [40] :: (brkT n t ++ [mk [41]])
theorem writes_brk {t : Bs} {ts : List Tok} (h : Writes t ts) : ∀ n, Writes (brk n t) (brkT n ts)
  | 0 => h
  | n + 1 => by
    intro k ws hk hr
    have h1 : Reads (41 :: k) (mk [41] :: ws) := reads_cut (cut_mark (m := [41]) (by decide) hk) hr
    have h2 := writes_brk h n (41 :: k) _ (stop_close k) h1
    have h3 : Reads ([40] ++ (brk n t ++ 41 :: k)) (mk [40] :: (brkT n ts ++ mk [41] :: ws)) := reads_cut (cut_open _) h2
    simpa [brk, brkT] using h3
theorem expr_brks {ts : List Tok} {x : Ex} {l : List Tok} (hE : ∀ i r, On ts i (l ++ r) → Ends r → P ts .expr (S i) = (x, S (i + l.length))) : ∀ n i r, On ts i (brkT n l ++ r) → Ends r → P ts .expr (S i) = (x, S (i + (brkT n l).length))
  | 0 => hE
  | n + 1 => expr_brk (expr_brks hE n)
theorem brk_len (t : Bs) : ∀ n, (brk n t).length = t.length + 2 * n
  | 0 => rfl
  | n + 1 => by rw [brk]; simp [brk_len t n]; omega
/-- an expression's text in brackets is read as it -/
theorem brackets {x : Ex} (hx : formed x = true) (n : Nat) (hl : (brk n (text x)).length ≤ 4096) : (Lx.scan (brk n (text x))).2.1 = 0 ∧ P (Lx.scan (brk n (text x))).1 .expr (S 0) = (x, S (Lx.scan (brk n (text x))).1.length) := by
  have hf := form_of x hx
  have hw := writes_brk (writes_text hf) n [] [] (.inl rfl) reads_nil
  rw [List.append_nil, List.append_nil] at hw
  obtain ⟨h1, h2⟩ := hw.scan hl
  refine ⟨by rw [h1], ?_⟩
  generalize (Lx.scan (brk n (text x))).1 = ts at *
  have e : stripL ts = brkT n (toks x) := h2
  have hlen : ts.length = (brkT n (toks x)).length := by rw [← e, stripL_len]
  rw [← P_strip, e, hlen]
  have := expr_brks (ts := brkT n (toks x)) (fun i r h he => expr_toks hf h he) n 0 [] (by unfold On; simp) ends_nil
  simpa using this
end Go.Proofs.Ytilkilffkjhhbaa.Tr
