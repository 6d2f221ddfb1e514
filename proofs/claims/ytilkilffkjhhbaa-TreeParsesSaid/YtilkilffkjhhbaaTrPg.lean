/-
  How a program lies in memory; what a parser reads fits Go's numbers.
-/
import Derived.Test.YtilkilffkjhhbaaTrQ7
namespace Go.Proofs.Ytilkilffkjhhbaa
set_option maxRecDepth 20000
set_option linter.unusedVariables false
open Go.RowKit Tr Mem

/-! what is read fits -/
def TokFit (ts : List Lx.Tok) : Prop := ∀ t ∈ ts, (-2147483648 ≤ t.n ∧ t.n ≤ 2147483647) ∧ t.text.length ≤ maxLen
theorem TokFit.tok {ts : List Lx.Tok} (h : TokFit ts) (s : St) : (-2147483648 ≤ (Tr.tok ts s).n ∧ (Tr.tok ts s).n ≤ 2147483647) ∧ (Tr.tok ts s).text.length ≤ maxLen := by
  unfold Tr.tok
  rw [List.getD_eq_getElem?_getD]
  cases hq : ts[s.at_]? with
  | none => simp
  | some t => exact h t (List.mem_of_getElem? hq)
theorem TokFit.name {ts : List Lx.Tok} (h : TokFit ts) (s : St) : (Tr.name ts s).1.length ≤ maxLen := by
  unfold Tr.name Tr.token
  split
  · exact (h.tok s).2
  · simp
theorem fit_zero : Fit Ex.zero := by unfold Ex.zero; rw [fit_eq]; exact ⟨by omega, by simp, by simp, fitL_nil⟩
theorem fit_mk {k n : Int} {m : Lx.Bs} {s : List Ex} (hn : -2147483648 ≤ n ∧ n ≤ 2147483647) (hm : m.length ≤ maxLen) (hs : s.length ≤ 3) (h : ∀ x ∈ s, Fit x) : Fit (.mk k n m s) := by
  rw [fit_eq]
  exact ⟨hn, hm, by unfold maxLen; omega, FitL.mk h⟩
theorem among_in {ts : List Lx.Tok} {s : St} : ∀ l, Tr.among ts s l = 0 ∨ Tr.among ts s l ∈ l
  | [] => .inl (by rw [Tr.among])
  | o :: r => by
    rw [Tr.among]
    split
    · exact .inr (by simp)
    · rcases among_in (ts := ts) (s := s) r with h | h
      · exact .inl h
      · exact .inr (by simp [h])
theorem ops_fit : ∀ n ≤ 5, ∀ o ∈ ops n, -2147483648 ≤ o ∧ o ≤ 2147483647 := by decide
theorem ops_big {n : Nat} (h : 6 ≤ n) : ops n = [3, 4, 5] := by
  unfold ops
  rw [if_neg (by omega), if_neg (by omega), if_neg (by omega), if_neg (by omega), if_neg (by omega)]
theorem among_fit {ts : List Lx.Tok} {s : St} (n : Nat) : -2147483648 ≤ Tr.among ts s (ops n) ∧ Tr.among ts s (ops n) ≤ 2147483647 := by
  rcases among_in (ts := ts) (s := s) (ops n) with h | h
  · rw [h]; omega
  · by_cases hn : n ≤ 5
    · exact ops_fit n hn _ h
    · rw [ops_big (by omega)] at h ⊢
      simp only [List.mem_cons, List.not_mem_nil, or_false] at h
      omega
def CFit : Tr.Call → Prop
  | .loop _ x => Fit x
  | .floop x => Fit x
  | _ => True
theorem run_fit {ts : List Lx.Tok} (ht : TokFit ts) : ∀ (f : Nat) (c : Tr.Call) (s : St), CFit c → Fit (run ts f c s).1
  | 0, c, s, _ => by rw [run]; exact fit_zero
  | f + 1, .expr, s, _ => by
    have h1 := run_fit ht f (.level 0) s trivial
    rw [run]
    dsimp only
    split
    · exact fit_mk (by omega) (by simp) (by simp) (by simp [h1, run_fit ht f .expr _ trivial])
    · exact h1
  | f + 1, .level n, s, _ => by
    rw [run]
    split
    · exact run_fit ht f _ _ trivial
    · exact run_fit ht f _ _ (run_fit ht f (.level (n + 1)) s trivial)
  | f + 1, .loop n x, s, hx => by
    rw [run]
    split
    · exact hx
    · have hb : Fit (bin (Tr.among ts s (ops n)) x (run ts f (.level (n + 1)) s.adv).1) := fit_mk (among_fit n) (by simp) (by simp) (by
        intro y hy
        simp only [List.mem_cons, List.not_mem_nil, or_false] at hy
        rcases hy with rfl | rfl
        · exact hx
        · exact run_fit ht f _ _ trivial)
      dsimp only
      split
      · exact hb
      · exact run_fit ht f _ _ hb
  | f + 1, .unary, s, _ => by
    rw [run]
    dsimp only
    split
    · exact fit_mk (by omega) (by simp) (by simp) (by simp [run_fit ht f .unary _ trivial])
    · split
      · exact fit_mk (by omega) (by simp) (by simp) (by simp [run_fit ht f .unary _ trivial])
      · exact run_fit ht f _ _ trivial
  | f + 1, .factor, s, _ => by
    rw [run]
    exact run_fit ht f _ _ (run_fit ht f .atom s trivial)
  | f + 1, .floop x, s, hx => by
    rw [run]
    dsimp only
    have g : ∀ k, Fit (.mk k 0 (Tr.name ts s.adv).1 [x]) := fun k => fit_mk (by omega) (ht.name _) (by simp) (by
      intro y hy
      simp only [List.mem_cons, List.not_mem_nil, or_false] at hy
      subst hy; exact hx)
    split
    · exact run_fit ht f _ _ (g 8)
    · split
      · exact run_fit ht f _ _ (g 9)
      · exact hx
  | f + 1, .atom, s, _ => by
    rw [run]
    dsimp only
    split
    · exact fit_mk (ht.tok s).1 (by simp) (by simp) (by simp)
    split
    · exact fit_mk (by omega) (by simp) (by simp) (by simp)
    split
    · exact fit_mk (by omega) (by simp) (by simp) (by simp)
    split
    · exact run_fit ht f _ _ trivial
    split
    · exact fit_mk (by omega) (by simp) (by simp) (by simp [run_fit ht f .expr _ trivial])
    split
    · exact fit_mk (by omega) (ht.name _) (by simp) (by simp [run_fit ht f .factor _ trivial])
    · exact fit_mk (by omega) (ht.name _) (by simp) (by simp)
theorem P_fit {ts : List Lx.Tok} (ht : TokFit ts) (c : Tr.Call) (s : St) (hc : CFit c) : Fit (P ts c s).1 := run_fit ht _ _ _ hc
theorem litP_fit {ts : List Lx.Tok} {s s' : St} {m : Bool} {x y : Ex} (hx : Fit x) (h : litP ts s m x = some (y, s')) : Fit y := by
  unfold litP at h
  split at h
  · simp only [Option.some.injEq, Prod.mk.injEq] at h
    rw [← h.1]
    split
    · exact fit_mk (by omega) (by simp) (by simp) (by
        intro z hz
        simp only [List.mem_cons, List.not_mem_nil, or_false] at hz
        subst hz; exact hx)
    · exact hx
  · cases h
theorem firstP_fit {ts : List Lx.Tok} (ht : TokFit ts) {s s' : St} {y : Ex} (h : firstP ts s = some (y, s')) : Fit y := by
  have fn : ∀ s, Fit (.mk 1 (Tr.tok ts s).n [] []) := fun s => fit_mk (ht.tok s).1 (by simp) (by simp) (by simp)
  have fb : ∀ n : Int, n = 0 ∨ n = 1 → Fit (.mk 2 n [] []) := fun n hn => fit_mk (by omega) (by simp) (by simp) (by simp)
  unfold firstP at h
  repeat' split at h
  · exact litP_fit (fn _) h
  · cases h
  · exact litP_fit (fn _) h
  · exact litP_fit (fb 1 (.inr rfl)) h
  · exact litP_fit (fb 0 (.inl rfl)) h
  · cases h
/-- an equation, a variable, a program fits -/
def EqFit (q : Eqn) : Prop := q.name.length ≤ maxLen ∧ Fit q.first ∧ Fit q.e
theorem eqP_fit {ts : List Lx.Tok} (ht : TokFit ts) (s : St) : EqFit (eqP ts s).1 := by
  unfold eqP
  split
  · exact ⟨ht.name _, fit_zero, P_fit ht _ _ trivial⟩
  · split
    · rename_i x s2 hq
      exact ⟨ht.name _, firstP_fit ht hq, P_fit ht _ _ trivial⟩
    · exact ⟨ht.name _, fit_zero, P_fit ht _ _ trivial⟩
theorem digits_nonneg : ∀ (l : Lx.Bs) (a : Int), 0 ≤ a → (∀ c ∈ l, Lx.bp Lx.digit c = true) → 0 ≤ l.foldl (fun a c => 10 * a + ((c.toNat : Int) - 48)) a
  | [], a, ha, _ => ha
  | c :: r, a, ha, h => by
    rw [List.foldl_cons]
    refine digits_nonneg r _ ?_ (fun d hd => h d (by simp [hd]))
    have := h c (by simp)
    unfold Lx.bp Lx.digit at this
    simp only [Bool.and_eq_true, decide_eq_true_eq] at this
    omega
/-- what a token of a text is -/
def TokOk (t : Lx.Tok) : Prop := (0 ≤ t.n ∧ t.n ≤ 2147483647) ∧ t.text.length ≤ 4096 ∧ (t.kind = 1 ∨ t.kind = 2 ∨ t.kind = 3 ∨ t.kind = 4) ∧ (t.kind = 1 → Lx.isWord t.text = false) ∧ (t.kind = 4 → Lx.isMark t.text = true) ∧ (t.kind = 3 → Lx.isWord t.text = true)
theorem next_ok {l : Lx.Bs} (h : (Lx.next l).2 = 0) (hl : l.length ≤ 4096) : TokOk (Lx.next l).1 := by
  have hh : ∀ p : Int → Bool, (Lx.hd p l).length ≤ 4096 := fun p => Nat.le_trans ((List.takeWhile_sublist _).length_le) hl
  have ht : ∀ k, (l.take k).length ≤ 4096 := fun k => by rw [List.length_take]; omega
  unfold Lx.next at h ⊢
  by_cases h1 : Lx.bp Lx.letter (l.headD 0) = true
  · rw [if_pos h1] at h ⊢
    dsimp only at h ⊢
    split
    · rename_i hw; exact ⟨by simp, hh _, by simp, by simp, by simp, fun _ => hw⟩
    · rename_i hw
      split
      · rename_i hb; rw [if_neg hw, if_pos hb] at h; simp at h
      · exact ⟨by simp, hh _, by simp, fun _ => by simpa using hw, by simp, by simp⟩
  · rw [if_neg h1] at h ⊢
    by_cases h2 : Lx.bp Lx.digit (l.headD 0) = true
    · rw [if_pos h2] at h ⊢
      dsimp only at h ⊢
      split
      · rename_i hr
        refine ⟨⟨digits_nonneg _ _ (Int.le_refl _) (Lx.mem_tw _ _), ?_⟩, hh _, by simp, by simp, by simp, by simp⟩
        unfold Lx.readOk at hr
        simp only [Bool.and_eq_true, decide_eq_true_eq] at hr
        exact hr.2
      · rename_i hr
        rw [if_neg hr] at h; simp at h
    · rw [if_neg h2] at h ⊢
      by_cases h3 : 2 ≤ l.length ∧ Lx.isMark (l.take 2) = true
      · rw [if_pos h3] at h ⊢
        exact ⟨by simp, ht _, by simp, by simp, fun _ => h3.2, by simp⟩
      · rw [if_neg h3] at h ⊢
        by_cases h4 : Lx.isMark (l.take 1) = true
        · rw [if_pos h4] at h ⊢
          exact ⟨by simp, ht _, by simp, by simp, fun _ => h4, by simp⟩
        · rw [if_neg h4] at h
          simp at h
theorem scanL_tok (N : Nat) : ∀ (n : Nat) (l : Lx.Bs), l.length < n → l.length ≤ 4096 → ∀ t ∈ (Lx.scanL N l).1, TokOk t := by
  intro n
  induction n with
  | zero => intro l h; omega
  | succ n ih =>
    intro l h h4
    by_cases hl : l = []
    · subst hl; intro t ht; rw [Lx.scanL_nil] at ht; simp at ht
    · by_cases he : (Lx.next l).2 = 0
      · have ht := Lx.next_text hl he
        have hp := Lx.pass_len (l.drop (Lx.next l).1.text.length)
        have hd : (l.drop (Lx.next l).1.text.length).length < l.length := by rw [List.length_drop]; omega
        rw [Lx.scanL_good _ hl he]
        split
        · intro t h; simp at h
        · intro t h
          rcases List.mem_cons.1 h with rfl | h
          · exact next_ok he h4
          · exact ih _ (by omega) (by omega) t h
      · rw [Lx.scanL_bad _ hl he]; intro t h; simp at h
theorem scan_tok (s : Lx.Bs) : ∀ t ∈ (Lx.scan s).1, TokOk t := by
  by_cases hs : 4096 < s.length
  · rw [Lx.scan_big hs]; intro t h; simp at h
  · rw [Lx.scan_small (by omega)]
    exact scanL_tok _ _ _ (Nat.lt_succ_self _) (by have := Lx.pass_len s; omega)
theorem scan_fit (s : Lx.Bs) : TokFit (Lx.scan s).1 := fun t ht => by
  obtain ⟨h1, h2, -⟩ := scan_tok s t ht
  exact ⟨by omega, by unfold maxLen; omega⟩
/-! equations in a row -/
/-- the cells are those of equations, of which the parts lie in blocks K -/
def EqsIn (w : World) (K : Nat → Prop) : List Eqn → List Value → Prop
  | [], xs => xs = []
  | q :: r, xs => ∃ AF cF AE cE ys, xs = eqCells q AF cF AE cE ++ ys ∧ At w K q.first AF ∧ At w K q.e AE ∧ EqsIn w K r ys
theorem EqsIn.same {w w' : World} {K : Nat → Prop} (hs : ∀ b, K b → b < w.heap.size → w'.heap[b]? = w.heap[b]?) : ∀ {l : List Eqn} {xs : List Value}, EqsIn w K l xs → EqsIn w' K l xs
  | [], _, h => h
  | _ :: _, _, ⟨AF, cF, AE, cE, ys, e, h1, h2, h3⟩ => ⟨AF, cF, AE, cE, ys, e, h1.same hs, h2.same hs, h3.same hs⟩
theorem EqsIn.below {w w' : World} {K : Nat → Prop} {l : List Eqn} {xs : List Value} (h : EqsIn w K l xs) (hb : Below w.heap.size w w') : EqsIn w' K l xs := h.same fun b _ hlt => hb.block b hlt
theorem EqsIn.grown {w w' : World} {K : Nat → Prop} {g : Nat} {l : List Eqn} {xs : List Value} (h : EqsIn w K l xs) (hg : w.grownBy w' (some g)) (hK : ¬ K g) : EqsIn w' K l xs := h.same fun b hb hlt => hg.block b hlt (fun e => by injection e with e; subst e; exact hK hb)
theorem EqsIn.base {w : World} {K K' : Nat → Prop} (hB : ∀ b, K b → b < w.heap.size → K' b) : ∀ {l : List Eqn} {xs : List Value}, EqsIn w K l xs → EqsIn w K' l xs
  | [], _, h => h
  | _ :: _, _, ⟨AF, cF, AE, cE, ys, e, h1, h2, h3⟩ => ⟨AF, cF, AE, cE, ys, e, h1.base hB, h2.base hB, h3.base hB⟩
theorem EqsIn.snoc {w : World} {K : Nat → Prop} {q : Eqn} {AF AE : Option Addr} {cF cE : Nat} (h1 : At w K q.first AF) (h2 : At w K q.e AE) : ∀ {l : List Eqn} {xs : List Value}, EqsIn w K l xs → EqsIn w K (l ++ [q]) (xs ++ eqCells q AF cF AE cE)
  | [], _, h => by
    have e : _ = [] := h
    subst e
    exact ⟨AF, cF, AE, cE, [], by simp, h1, h2, rfl⟩
  | _ :: _, _, ⟨AF', cF', AE', cE', ys, e, g1, g2, g3⟩ => ⟨AF', cF', AE', cE', ys ++ eqCells q AF cF AE cE, by rw [e, List.append_assoc], g1, g2, g3.snoc h1 h2⟩
theorem EqsIn.len {w : World} {K : Nat → Prop} : ∀ {l : List Eqn} {xs : List Value}, EqsIn w K l xs → xs.length = l.length * 10
  | [], _, h => by have e : _ = [] := h; subst e; rfl
  | _ :: _, _, ⟨_, _, _, _, ys, e, _, _, h3⟩ => by subst e; have := h3.len; simp [eqCells] at *; omega
theorem EqsIn.get {w : World} {K : Nat → Prop} : ∀ {l : List Eqn} {xs : List Value}, EqsIn w K l xs → ∀ k (h : k < l.length), ∃ AF cF AE cE, At w K (l[k]'h).first AF ∧ At w K (l[k]'h).e AE ∧ ∀ (j : Nat) (v : Value), (eqCells (l[k]'h) AF cF AE cE)[j]? = some v → xs[k * 10 + j]? = some v
  | [], _, _, k, h => by simp at h
  | q :: r, _, ⟨AF, cF, AE, cE, ys, e, h1, h2, h3⟩, 0, h => ⟨AF, cF, AE, cE, h1, h2, fun j v hv => by
      rw [e, Nat.zero_mul, Nat.zero_add, List.getElem?_append_left]
      · exact hv
      · exact (List.getElem?_eq_some_iff.1 hv).1⟩
  | q :: r, _, ⟨AF, cF, AE, cE, ys, e, h1, h2, h3⟩, k + 1, h => by
    obtain ⟨AF', cF', AE', cE', g1, g2, g3⟩ := h3.get k (by simpa using h)
    refine ⟨AF', cF', AE', cE', g1, g2, fun j v hv => ?_⟩
    have hl : (eqCells q AF cF AE cE).length = 10 := rfl
    rw [e, List.getElem?_append_right (by rw [hl]; omega), hl]
    have e2 : (k + 1) * 10 + j - 10 = k * 10 + j := by omega
    rw [e2]
    exact g3 j v hv
/-! a program to be read -/
def VarsAt (w : World) (A : Option Addr) (l : List Vr) : Prop := ∀ k (h : k < l.length), ∃ b off, A = some ⟨b, off, none⟩ ∧ w.cell? ⟨b, off + k * 4, none⟩ = some (.string ⟨(l[k]'h).name.toArray⟩) ∧
  w.cell? ⟨b, off + k * 4 + 1, none⟩ = some (.int .i64 (l[k]'h).type) ∧ w.cell? ⟨b, off + k * 4 + 2, none⟩ = some (.int .i64 (l[k]'h).ck) ∧ w.cell? ⟨b, off + k * 4 + 3, none⟩ = some (.string ⟨(l[k]'h).cn.toArray⟩)
theorem VarsAt.below {w w' : World} {A : Option Addr} {l : List Vr} (h : VarsAt w A l) (hb : Below w.heap.size w w') : VarsAt w' A l := by
  intro k hk
  obtain ⟨b, off, rfl, c0, c1, c2, c3⟩ := h k hk
  have hl := World.block_lt_of_cell? _ _ c0
  exact ⟨b, off, rfl, (hb.cell (p := ⟨b, off + k * 4, none⟩) hl).trans c0, (hb.cell (p := ⟨b, off + k * 4 + 1, none⟩) hl).trans c1, (hb.cell (p := ⟨b, off + k * 4 + 2, none⟩) hl).trans c2, (hb.cell (p := ⟨b, off + k * 4 + 3, none⟩) hl).trans c3⟩
theorem varsCells_get : ∀ (l : List Vr) (k : Nat) (h : k < l.length), (varsCells l)[k * 4]? = some (.string ⟨(l[k]'h).name.toArray⟩) ∧ (varsCells l)[k * 4 + 1]? = some (.int .i64 (l[k]'h).type) ∧ (varsCells l)[k * 4 + 2]? = some (.int .i64 (l[k]'h).ck) ∧ (varsCells l)[k * 4 + 3]? = some (.string ⟨(l[k]'h).cn.toArray⟩)
  | [], k, h => by simp at h
  | v :: r, 0, _ => ⟨rfl, rfl, rfl, rfl⟩
  | v :: r, k + 1, h => by
    obtain ⟨h0, h1, h2, h3⟩ := varsCells_get r k (by simpa using h)
    have e : varsCells (v :: r) = varCells v ++ varsCells r := rfl
    have hl : (varCells v).length = 4 := rfl
    have g : ∀ j, (varsCells (v :: r))[(k + 1) * 4 + j]? = (varsCells r)[k * 4 + j]? := fun j => by
      rw [e, List.getElem?_append_right (by rw [hl]; omega), hl]
      congr 1; omega
    exact ⟨(g 0).trans h0, (g 1).trans h1, (g 2).trans h2, (g 3).trans h3⟩
theorem VarsAt.of_own {w : World} {base c : Nat} {A : Option Addr} {l : List Vr} {e : TypeId} (h : w.ownsRow base e 4 (.slice A l.length c) l.length (varsCells l)) : VarsAt w A l := by
  intro k hk
  rcases h.2 with ⟨hv, -⟩ | ⟨g, cap, cur, hv, -, hh, -, -, -, hcur⟩
  · simp only [Value.slice.injEq] at hv
    omega
  · injection hv with e1 e2 e3
    subst e1
    obtain ⟨h0, h1, h2, h3⟩ := varsCells_get l k hk
    have hget : ∀ (i : Nat) (u : Value), (varsCells l)[i]? = some u → w.cell? ⟨g, i, none⟩ = some u := by
      intro i u hi
      have hlt := (List.getElem?_eq_some_iff.1 hi).1
      have hcell := cell_of_row w g i _ _ _ hh
      have hi' : cur[i]? = some u := by
        rw [← hcur] at hi
        rw [List.getElem?_take] at hi
        split at hi
        · simpa using hi
        · cases hi
      rw [hcell]
      simpa using hi'
    exact ⟨g, 0, rfl, by simpa using hget _ _ h0, by simpa using hget _ _ h1, by simpa using hget _ _ h2, by simpa using hget _ _ h3⟩
def EqsAt (w : World) (K : Nat → Prop) (A : Option Addr) (l : List Eqn) : Prop := ∀ k (h : k < l.length), ∃ b off AF cF AE cE, A = some ⟨b, off, none⟩ ∧ At w K (l[k]'h).first AF ∧ At w K (l[k]'h).e AE ∧
  ∀ (j : Nat) (v : Value), (eqCells (l[k]'h) AF cF AE cE)[j]? = some v → w.cell? ⟨b, off + k * 10 + j, none⟩ = some v
theorem EqsAt.below {w w' : World} {K : Nat → Prop} {A : Option Addr} {l : List Eqn} (h : EqsAt w K A l) (hb : Below w.heap.size w w') : EqsAt w' K A l := by
  intro k hk
  obtain ⟨b, off, AF, cF, AE, cE, e, h1, h2, h3⟩ := h k hk
  exact ⟨b, off, AF, cF, AE, cE, e, h1.below hb (Nat.le_refl _), h2.below hb (Nat.le_refl _), fun j v hv => (hb.cell (p := ⟨b, off + k * 10 + j, none⟩) (World.block_lt_of_cell? _ _ (h3 j v hv))).trans (h3 j v hv)⟩
theorem EqsAt.of_own {w : World} {K : Nat → Prop} {base c : Nat} {A : Option Addr} {l : List Eqn} {xs : List Value} {e : TypeId} (h : w.ownsRow base e 10 (.slice A l.length c) l.length xs) (hi : EqsIn w K l xs) : EqsAt w K A l := by
  intro k hk
  obtain ⟨AF, cF, AE, cE, h1, h2, h3⟩ := hi.get k hk
  rcases h.2 with ⟨hv, -⟩ | ⟨g, cap, cur, hv, -, hh, -, -, -, hcur⟩
  · simp only [Value.slice.injEq] at hv
    omega
  · injection hv with e1 e2 e3
    subst e1
    refine ⟨g, 0, AF, cF, AE, cE, rfl, h1, h2, fun j u hu => ?_⟩
    have hi := h3 j u hu
    have hcell := cell_of_row w g (0 + k * 10 + j) _ _ _ hh
    have hi' : cur[k * 10 + j]? = some u := by
      rw [← hcur] at hi
      rw [List.getElem?_take] at hi
      split at hi
      · simpa using hi
      · cases hi
    rw [hcell, Nat.zero_add]
    simpa using hi'
/-- where a program's lists lie -/
structure Lie where
  ai : Option Addr
  ci : Nat
  ao : Option Addr
  co : Nat
  al : Option Addr
  cl : Nat
  ae : Option Addr
  ce : Nat
def Lie.zero : Lie := ⟨none, 0, none, 0, none, 0, none, 0⟩
def pgAgg (p : Pg) (L : Lie) : Value := .agg #[.string ⟨p.name.toArray⟩, .slice L.ai p.ins.length L.ci, .slice L.ao p.outs.length L.co, .slice L.al p.locals.length L.cl, .slice L.ae p.eqs.length L.ce]
structure PgAt (w : World) (K : Nat → Prop) (p : Pg) (L : Lie) : Prop where
  ins : VarsAt w L.ai p.ins
  outs : VarsAt w L.ao p.outs
  locals : VarsAt w L.al p.locals
  eqs : EqsAt w K L.ae p.eqs
theorem PgAt.below {w w' : World} {K : Nat → Prop} {p : Pg} {L : Lie} (h : PgAt w K p L) (hb : Below w.heap.size w w') : PgAt w' K p L := ⟨h.ins.below hb, h.outs.below hb, h.locals.below hb, h.eqs.below hb⟩
theorem pgAt_zero (w : World) (K : Nat → Prop) (L : Lie) : PgAt w K Pg.zero L := ⟨fun k h => by simp [Pg.zero] at h, fun k h => by simp [Pg.zero] at h, fun k h => by simp [Pg.zero] at h, fun k h => by simp [Pg.zero] at h⟩
/-- a variable, a program fits -/
def VrFit (v : Vr) : Prop := v.name.length ≤ maxLen ∧ v.cn.length ≤ maxLen
structure PgFit (p : Pg) : Prop where
  name : p.name.length ≤ maxLen
  ins : p.ins.length ≤ maxLen ∧ ∀ v ∈ p.ins, VrFit v
  outs : p.outs.length ≤ maxLen ∧ ∀ v ∈ p.outs, VrFit v
  locals : p.locals.length ≤ maxLen ∧ ∀ v ∈ p.locals, VrFit v
  eqs : p.eqs.length ≤ maxLen ∧ ∀ q ∈ p.eqs, EqFit q
end Go.Proofs.Ytilkilffkjhhbaa
