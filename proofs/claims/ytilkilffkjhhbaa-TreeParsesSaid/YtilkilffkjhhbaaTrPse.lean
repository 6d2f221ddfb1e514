/-
  The function Parse: plain lemmas, and what stands in memory on its way.
  The function Parse.
  What Parse reads fits Go's numbers.
-/
import Derived.Test.YtilkilffkjhhbaaTrPg
import Derived.Test.YtilkilffkjhhbaaTrD
import Derived.Test.YtilkilffkjhhbaaLex1
import Derived.Maps.AppendAt
import Derived.Test.YtilkilffkjhhbaaTrQ7
import Derived.Test.YtilkilffkjhhbaaRgn
namespace Go.Proofs.Ytilkilffkjhhbaa
set_option maxRecDepth 20000
set_option linter.unusedVariables false
open Go.RowKit Tr Mem

theorem sees_bad {ts : List Lx.Tok} {s : St} (h : s.bad = true) (m : Lx.Bs) : sees ts s m = false := by
  rcases hq : sees ts s m with _ | _
  · rfl
  · have := (sees_lt hq).1; rw [h] at this; cases this
theorem isKind_bad {ts : List Lx.Tok} {s : St} (h : s.bad = true) (k : Int) : isKind ts s k = false := by
  rcases hq : isKind ts s k with _ | _
  · rfl
  · have := (isKind_lt hq).1; rw [h] at this; cases this
theorem among_bad {ts : List Lx.Tok} {s : St} (h : s.bad = true) (l : List Int) : Tr.among ts s l = 0 := by
  by_cases hq : Tr.among ts s l = 0
  · exact hq
  · have := (among_lt l s hq).1; rw [h] at this; cases this
theorem name_bad {ts : List Lx.Tok} {s : St} (h : s.bad = true) : (Tr.name ts s).2.bad = true := by
  unfold Tr.name Tr.token
  rw [isKind_bad h]; rfl
theorem need_bad {ts : List Lx.Tok} {s : St} (h : s.bad = true) (m : Lx.Bs) : (Tr.need ts s m).bad = true := by
  unfold Tr.need
  rw [sees_bad h]; rfl
theorem run_bad {ts : List Lx.Tok} : ∀ (f : Nat) (c : Tr.Call) (s : St), s.bad = true → (run ts f c s).2.bad = true
  | 0, c, s, h => by rw [run]; exact h
  | f + 1, .expr, s, h => by
    have h1 := run_bad (ts := ts) f (.level 0) s h
    rw [run]
    dsimp only
    rw [sees_bad h1, if_neg (by decide)]
    exact h1
  | f + 1, .level n, s, h => by
    rw [run]
    split
    · exact run_bad f _ _ h
    · exact run_bad f _ _ (run_bad f _ _ h)
  | f + 1, .loop n x, s, h => by rw [run, among_bad h, if_pos rfl]; exact h
  | f + 1, .unary, s, h => by rw [run, sees_bad h, sees_bad h, if_neg (by decide), if_neg (by decide)]; exact run_bad f _ _ h
  | f + 1, .factor, s, h => by rw [run]; exact run_bad f _ _ (run_bad f _ _ h)
  | f + 1, .floop x, s, h => by rw [run, sees_bad h, sees_bad h, if_neg (by decide), if_neg (by decide)]; exact h
  | f + 1, .atom, s, h => by
    rw [run, isKind_bad h, sees_bad h, sees_bad h, sees_bad h, sees_bad h, sees_bad h, if_neg (by decide), if_neg (by decide), if_neg (by decide), if_neg (by decide), if_neg (by decide), if_neg (by decide)]
    exact name_bad h
theorem P_bad {ts : List Lx.Tok} (c : Tr.Call) {s : St} (h : s.bad = true) : (P ts c s).2.bad = true := run_bad _ _ _ h
theorem P_good {ts : List Lx.Tok} {c : Tr.Call} {s : St} (h : (P ts c s).2.bad = false) : s.bad = false := by
  rcases hq : s.bad with _ | _
  · rfl
  · rw [P_bad c hq] at h; cases h
theorem litP_at {ts : List Lx.Tok} {s s' : St} {m : Bool} {x y : Ex} (h : litP ts s m x = some (y, s')) : s' = s.adv ∧ s.bad = false ∧ s.at_ < ts.length := by
  unfold litP at h
  split at h
  · rename_i hs
    simp only [Option.some.injEq, Prod.mk.injEq] at h
    exact ⟨h.2.symm, sees_lt hs⟩
  · cases h
theorem firstP_at {ts : List Lx.Tok} {s s' : St} {y : Ex} (h : firstP ts s = some (y, s')) : s.at_ ≤ s'.at_ ∧ s.bad = false := by
  unfold firstP at h
  split at h
  · split at h
    · obtain ⟨rfl, h2, -⟩ := litP_at h
      exact ⟨by simp only [adv_at]; omega, h2⟩
    · cases h
  · split at h
    · obtain ⟨rfl, h2, -⟩ := litP_at h
      exact ⟨by simp only [adv_at]; omega, h2⟩
    · split at h
      · obtain ⟨rfl, h2, -⟩ := litP_at h
        exact ⟨by simp only [adv_at]; omega, h2⟩
      · split at h
        · obtain ⟨rfl, h2, -⟩ := litP_at h
          exact ⟨by simp only [adv_at]; omega, h2⟩
        · cases h
theorem eqP_at (ts : List Lx.Tok) (s : St) : s.at_ ≤ (eqP ts s).2.at_ := by
  have h1 := name_at (ts := ts) s
  have h2 := need_at (ts := ts) (Tr.name ts s).2 [61]
  unfold eqP
  split
  · have h3 := P_at (ts := ts) .expr (Tr.need ts (Tr.name ts s).2 [61]).adv
    have h4 := need_at (ts := ts) (P ts .expr (Tr.need ts (Tr.name ts s).2 [61]).adv).2 [59]
    rw [adv_at] at h3
    simp only; omega
  · split
    · rename_i x s2 hq
      have h0 := (firstP_at hq).1
      have h3 := P_at (ts := ts) .expr s2
      have h4 := need_at (ts := ts) (P ts .expr s2).2 [59]
      simp only; omega
    · have h3 := P_at (ts := ts) .expr (Tr.need ts (Tr.name ts s).2 [61])
      have h4 := need_at (ts := ts) (P ts .expr (Tr.need ts (Tr.name ts s).2 [61])).2 [59]
      simp only; omega
theorem eqP_ok {ts : List Lx.Tok} {s : St} (h : (eqP ts s).2.bad = false) : s.at_ < (eqP ts s).2.at_ ∧ s.at_ < ts.length := by
  have key : (Tr.name ts s).2.bad = false → ∀ n, (Tr.name ts s).2.at_ ≤ n → s.at_ < n ∧ s.at_ < ts.length := fun hb n hn => by
    have h1 := name_ok hb
    have h2 := token_lt (k := 1) hb
    rw [h1.2, adv_at] at hn
    exact ⟨by omega, h2⟩
  have h2 := need_at (ts := ts) (Tr.name ts s).2 [61]
  unfold eqP at h ⊢
  split
  · rename_i hs
    rw [if_pos hs] at h
    have hb := P_good (need_ok h).1
    have h3 := P_at (ts := ts) .expr (Tr.need ts (Tr.name ts s).2 [61]).adv
    have h4 := need_at (ts := ts) (P ts .expr (Tr.need ts (Tr.name ts s).2 [61]).adv).2 [59]
    rw [adv_at] at h3
    exact key (need_ok (m := [61]) hb).1 _ (by simp only; omega)
  · rename_i hs
    rw [if_neg hs] at h
    split
    · rename_i x s2 hq
      rw [hq] at h
      have h0 := firstP_at hq
      have h3 := P_at (ts := ts) .expr s2
      have h4 := need_at (ts := ts) (P ts .expr s2).2 [59]
      exact key (need_ok (m := [61]) h0.2).1 _ (by simp only; omega)
    · rename_i hq
      rw [hq] at h
      have hb := P_good (need_ok h).1
      have h3 := P_at (ts := ts) .expr (Tr.need ts (Tr.name ts s).2 [61])
      have h4 := need_at (ts := ts) (P ts .expr (Tr.need ts (Tr.name ts s).2 [61])).2 [59]
      exact key (need_ok (m := [61]) hb).1 _ (by simp only; omega)
theorem eqsF_fuel (ts : List Lx.Tok) (N : Int) : ∀ (f g : Nat) (s : St), ts.length - s.at_ < f → ts.length - s.at_ < g → eqsF ts N f s = eqsF ts N g s
  | 0, _, s, h, _ => by omega
  | _ + 1, 0, s, _, h => by omega
  | f + 1, g + 1, s, h1, h2 => by
    rw [eqsF, eqsF]
    split
    · rfl
    · split
      · rfl
      · split
        · rfl
        · rename_i hb
          have hk := eqP_ok (ts := ts) (s := s) (by simpa using hb)
          rw [eqsF_fuel ts N f g _ (by omega) (by omega)]
theorem eqsL_eq (ts : List Lx.Tok) (N : Int) (s : St) : eqsL ts N s =
    if s.bad then (none, [], s)
    else if sees ts s wTel then (none, [], s.adv)
    else if (eqP ts s).2.bad then (none, [], (eqP ts s).2)
    else if right (eqP ts s).1.e ≠ 0 then (some (right (eqP ts s).1.e, plc ts s N), [], (eqP ts s).2)
    else ((eqsL ts N (eqP ts s).2).1, (eqP ts s).1 :: (eqsL ts N (eqP ts s).2).2.1, (eqsL ts N (eqP ts s).2).2.2) := by
  show eqsF ts N (ts.length - s.at_ + 1) s = _
  rw [eqsF]
  split
  · rfl
  · split
    · rfl
    · split
      · rfl
      · rename_i hb
        have hk := eqP_ok (ts := ts) (s := s) (by simpa using hb)
        have e : eqsF ts N (ts.length - s.at_) (eqP ts s).2 = eqsL ts N (eqP ts s).2 := eqsF_fuel ts N _ _ _ (by omega) (by omega)
        rw [e]
/-- what the equations' end makes of a head and equations -/
def finT (ts : List Lx.Tok) (N : Int) (h : Pg) (done : List Eqn) (r : Option (Int × Int) × List Eqn × St) : Pg × Int × Int :=
  match r.1 with
  | some (e, p) => (Pg.zero, e, p)
  | none => if r.2.2.bad || decide (r.2.2.at_ < ts.length) then (Pg.zero, 16, plc ts r.2.2 N) else ({ h with eqs := done ++ r.2.1 }, 0, 0)
theorem parseT_fin (ts : List Lx.Tok) (N : Int) : parseT ts N = finT ts N (headP ts ⟨0, false⟩).1 [] (eqsL ts N (headP ts ⟨0, false⟩).2) := by
  unfold parseT finT
  generalize eqsL ts N (headP ts ⟨0, false⟩).2 = r
  obtain ⟨a, b, c⟩ := r
  cases a <;> simp
theorem finT_bad {ts : List Lx.Tok} {N : Int} {h : Pg} {done : List Eqn} {s : St} (hb : s.bad = true) : finT ts N h done (eqsL ts N s) = (Pg.zero, 16, plc ts s N) := by
  rw [eqsL_eq, if_pos hb]
  simp [finT, hb]
theorem finT_tel {ts : List Lx.Tok} {N : Int} {h : Pg} {done : List Eqn} {s : St} (hb : s.bad = false) (ht : sees ts s wTel = true) : finT ts N h done (eqsL ts N s) = if s.at_ + 1 < ts.length then (Pg.zero, 16, plc ts s.adv N) else ({ h with eqs := done }, 0, 0) := by
  rw [eqsL_eq, if_neg (by rw [hb]; decide), if_pos ht]
  have hb' : s.adv.bad = false := hb
  unfold finT
  dsimp only
  rw [hb', adv_at, Bool.false_or, List.append_nil]
  by_cases hq : s.at_ + 1 < ts.length
  · rw [if_pos hq, if_pos (decide_eq_true hq)]
  · rw [if_neg hq, if_neg (by simpa using hq)]
theorem finT_fail {ts : List Lx.Tok} {N : Int} {h : Pg} {done : List Eqn} {s : St} (hb : s.bad = false) (ht : sees ts s wTel = false) (he : (eqP ts s).2.bad = true) : finT ts N h done (eqsL ts N s) = (Pg.zero, 16, plc ts (eqP ts s).2 N) := by
  rw [eqsL_eq, if_neg (by rw [hb]; decide), if_neg (by rw [ht]; decide), if_pos he]
  simp [finT, he]
theorem finT_wrong {ts : List Lx.Tok} {N : Int} {h : Pg} {done : List Eqn} {s : St} (hb : s.bad = false) (ht : sees ts s wTel = false) (he : (eqP ts s).2.bad = false) (hr : right (eqP ts s).1.e ≠ 0) : finT ts N h done (eqsL ts N s) = (Pg.zero, right (eqP ts s).1.e, plc ts s N) := by
  rw [eqsL_eq, if_neg (by rw [hb]; decide), if_neg (by rw [ht]; decide), if_neg (by rw [he]; decide), if_pos hr]
  rfl
theorem finT_next {ts : List Lx.Tok} {N : Int} {h : Pg} {done : List Eqn} {s : St} (hb : s.bad = false) (ht : sees ts s wTel = false) (he : (eqP ts s).2.bad = false) (hr : right (eqP ts s).1.e = 0) : finT ts N h done (eqsL ts N s) = finT ts N h (done ++ [(eqP ts s).1]) (eqsL ts N (eqP ts s).2) := by
  rw [eqsL_eq, if_neg (by rw [hb]; decide), if_neg (by rw [ht]; decide), if_neg (by rw [he]; decide), if_neg (by simp [hr])]
  unfold finT
  generalize eqsL ts N (eqP ts s).2 = r
  obtain ⟨a, b, c⟩ := r
  cases a <;> simp
/-! memory -/
def ownK (ob : Nat) (v : Value) (b : Nat) : Prop := ob < b ∧ ∀ k, v.ownBlock = some k → b ≠ k
def eqSl (L : Lie) (p : Pg) : Value := .slice L.ae p.eqs.length L.ce
def pgRow (p : Pg) (L : Lie) : Array Value := #[.string ⟨p.name.toArray⟩, .slice L.ai p.ins.length L.ci, .slice L.ao p.outs.length L.co, .slice L.al p.locals.length L.cl, .slice L.ae p.eqs.length L.ce]
theorem pgRow_one (p : Pg) (L : Lie) : (pgRow p L).all (·.oneCell') = true := pg_one _ _ _ _ _ _ _ _ _ _ _ _ _
theorem zpg_one : zpg.all (·.oneCell') = true := by
  unfold zpg
  exact all_oneCell_toArray (cs := [.string ⟨#[]⟩, .slice none 0 0, .slice none 0 0, .slice none 0 0, .slice none 0 0]) (by intro u hu; simp at hu; rcases hu with rfl | rfl | rfl | rfl | rfl <;> rfl)
/-- on the way through Parse -/
structure PS (w W : World) (bp ob : Nat) (A : Option Addr) (c : Nat) (ts : List Lx.Tok) (s : St) (p : Pg) (L : Lie) (xs : List Value) : Prop where
  below : Below w.heap.size w W
  lo : w.heap.size < bp ∧ bp < ob ∧ ob < W.heap.size
  row : RowAt W bp 61 A c ts s
  zrow : W.heap[w.heap.size]? = some (.cells zpg 26 (0, 0))
  prow : W.heap[ob]? = some (.cells (pgRow p L) 26 (0, 0))
  ins : W.ownsRow (bp + 1) 73 4 (.slice L.ai p.ins.length L.ci) p.ins.length (varsCells p.ins)
  outs : W.ownsRow (bp + 1) 73 4 (.slice L.ao p.outs.length L.co) p.outs.length (varsCells p.outs)
  locals : W.ownsRow (bp + 1) 73 4 (.slice L.al p.locals.length L.cl) p.locals.length (varsCells p.locals)
  old : (∀ k, (Value.slice L.ai p.ins.length L.ci).ownBlock = some k → k < ob) ∧ (∀ k, (Value.slice L.ao p.outs.length L.co).ownBlock = some k → k < ob) ∧ (∀ k, (Value.slice L.al p.locals.length L.cl).ownBlock = some k → k < ob)
  eqs : W.ownsRow (ob + 1) 56 10 (eqSl L p) p.eqs.length xs
  inn : EqsIn W (ownK ob (eqSl L p)) p.eqs xs
  toks : ∀ b o q, A = some ⟨b, o, q⟩ → b < bp
theorem own_by' {w w' : World} {base size n : Nat} {e : TypeId} {v : Value} {xs : List Value} (h : w.ownsRow base e size v n xs) (hk : ∀ b, base ≤ b → v.ownBlock = some b → b < w.heap.size → w'.heap[b]? = w.heap[b]?) : w'.ownsRow base e size v n xs := by
  refine ⟨h.1, ?_⟩
  rcases h.2 with h2 | ⟨b, cap, cur, rfl, hb, hh, r⟩
  · exact .inl h2
  · exact .inr ⟨b, cap, cur, rfl, hb, (hk b hb rfl (Array.getElem?_eq_some_iff.1 hh).1).trans hh, r⟩
/-- all blocks but the row are kept -/
theorem PS.took {w W W' : World} {bp ob : Nat} {A : Option Addr} {c : Nat} {ts : List Lx.Tok} {s s' : St} {p : Pg} {L : Lie} {xs : List Value} (h : PS w W bp ob A c ts s p L xs) (hk : Took W bp 61 A c ts s' W') : PS w W' bp ob A c ts s' p L xs := by
  have hl := h.lo
  have hs := hk.2.size
  have kp : ∀ b, b ≠ bp → b < W.heap.size → W'.heap[b]? = W.heap[b]? := fun b hb hlt => hk.2.block b hlt (fun e => hb (by injection e))
  exact ⟨h.below.trans (below_of_grown hk.2 (by omega) (fun k e => by injection e; omega)), ⟨hl.1, hl.2.1, by omega⟩, hk.1, (kp _ (by omega) (by omega)).trans h.zrow, (kp _ (by omega) (by omega)).trans h.prow,
    own_by' h.ins (fun b hb _ hlt => kp b (by omega) hlt), own_by' h.outs (fun b hb _ hlt => kp b (by omega) hlt), own_by' h.locals (fun b hb _ hlt => kp b (by omega) hlt), h.old,
    own_by' h.eqs (fun b hb _ hlt => kp b (by omega) hlt), h.inn.same (fun b hb hlt => kp b (by have := hb.1; omega) hlt), h.toks⟩
theorem PS.by {w W W' : World} {bp ob : Nat} {A : Option Addr} {c : Nat} {ts : List Lx.Tok} {s : St} {p : Pg} {L : Lie} {xs : List Value} (h : PS w W bp ob A c ts s p L xs) (hb : Below W.heap.size W W') : PS w W' bp ob A c ts s p L xs := h.took ⟨h.row.below hb (Nat.le_refl _), grown_of_below hb _⟩
/-- an equation is appended -/
theorem PS.app {w W W' : World} {bp ob : Nat} {A : Option Addr} {c : Nat} {ts : List Lx.Tok} {s : St} {p : Pg} {L : Lie} {xs : List Value} (h : PS w W bp ob A c ts s p L xs) {q : Eqn} {AF AE : Option Addr} {cF cE : Nat}
    (h1 : At W (ownK ob (eqSl L p)) q.first AF) (h2 : At W (ownK ob (eqSl L p)) q.e AE) {A' : Option Addr} {c' : Nat}
    (ho : W'.ownsRow (ob + 1) 56 10 (.slice A' (p.eqs.length + 1) c') (p.eqs.length + 1) (xs ++ eqCells q AF cF AE cE)) (hg : W.grownBy W' (eqSl L p).ownBlock)
    (hv : (Value.slice A' (p.eqs.length + 1) c').ownBlock = (eqSl L p).ownBlock ∨ (Value.slice A' (p.eqs.length + 1) c').ownBlock = some W.heap.size) :
    PS w (W'.setCell ⟨ob, 4, none⟩ (.slice A' (p.eqs.length + 1) c')) bp ob A c ts s { p with eqs := p.eqs ++ [q] } { L with ae := A', ce := c' } (xs ++ eqCells q AF cF AE cE) := by
  have hl := h.lo
  have hs := hg.size
  have heq : ∀ k, (eqSl L p).ownBlock = some k → ob < k := fun k hk => by have := (h.eqs.lt k hk).1; omega
  have kp : ∀ b, b ≤ ob → b < W.heap.size → W'.heap[b]? = W.heap[b]? := fun b hb hlt => hg.block b hlt (fun e => by have := heq b e.symm; omega)
  have kp' : ∀ b, ob < b → b < W'.heap.size → (W'.setCell ⟨ob, 4, none⟩ (.slice A' (p.eqs.length + 1) c')).heap[b]? = W'.heap[b]? := fun b hb _ => heap_setCell_other _ _ _ _ (by simp only; omega)
  have kq : ∀ b, b < ob → (W'.setCell ⟨ob, 4, none⟩ (.slice A' (p.eqs.length + 1) c')).heap[b]? = W'.heap[b]? := fun b hb => heap_setCell_other _ _ _ _ (by simp only; omega)
  have hlen : (p.eqs ++ [q]).length = p.eqs.length + 1 := by simp
  have hbW : Below w.heap.size w W' := h.below.trans (below_of_grown hg (by omega) (fun k e => by have := heq k e; omega))
  have inn' : EqsIn W' (ownK ob (.slice A' (p.eqs.length + 1) c')) (p.eqs ++ [q]) (xs ++ eqCells q AF cF AE cE) := by
    have sm : ∀ b, ownK ob (eqSl L p) b → b < W.heap.size → W'.heap[b]? = W.heap[b]? := fun b hb hlt => hg.block b hlt (fun e => hb.2 b e.symm rfl)
    have bs : ∀ b, ownK ob (eqSl L p) b → b < W.heap.size → ownK ob (.slice A' (p.eqs.length + 1) c') b := fun b hb hlt => ⟨hb.1, fun k hk => by
      rcases hv with e | e
      · rw [e] at hk; exact hb.2 k hk
      · rw [e] at hk; injection hk with hk; omega⟩
    have mv : ∀ {x : Ex} {B : Option Addr}, At W (ownK ob (eqSl L p)) x B → At W' (ownK ob (.slice A' (p.eqs.length + 1) c')) x B := fun hx =>
      ((hx.base (B' := fun b => ownK ob (eqSl L p) b ∧ b < W.heap.size) (fun b hb hlt => ⟨hb, hlt⟩)).same (fun b hb hlt => sm b hb.1 hlt)).base (fun b hb _ => bs b hb.1 hb.2)
    exact EqsIn.snoc (mv h1) (mv h2) (((h.inn.base (K' := fun b => ownK ob (eqSl L p) b ∧ b < W.heap.size) (fun b hb hlt => ⟨hb, hlt⟩)).same (fun b hb hlt => sm b hb.1 hlt)).base (fun b hb _ => bs b hb.1 hb.2))
  have hsz : (W'.setCell ⟨ob, 4, none⟩ (.slice A' (p.eqs.length + 1) c')).heap.size = W'.heap.size := by simp
  have hrow : RowAt W' bp 61 A c ts s := by
    refine ⟨(kp _ (by omega) h.row.lt).trans h.row.row, ?_, h.row.ne, h.row.le, h.row.len⟩
    intro k hk
    obtain ⟨b, off, e, c0, c1, c2, c3⟩ := h.row.toks k hk
    have hb := h.toks b off none e
    have ce : ∀ o, W'.cell? ⟨b, o, none⟩ = W.cell? ⟨b, o, none⟩ := fun o => World.cell?_of_block (w := W) (a := ⟨b, o, none⟩) (kp b (by omega) (World.block_lt_of_cell? _ _ c0))
    exact ⟨b, off, e, (ce _).trans c0, (ce _).trans c1, (ce _).trans c2, (ce _).trans c3⟩
  have hrow' : RowAt (W'.setCell ⟨ob, 4, none⟩ (.slice A' (p.eqs.length + 1) c')) bp 61 A c ts s :=
    hrow.grow (grown_setCell _ _ _ _) (by omega) (fun _ b o q e => by have := h.toks b o q e; omega)
  have hpr : W'.heap[ob]? = some (.cells (pgRow p L) 26 (0, 0)) := (kp ob (Nat.le_refl _) hl.2.2).trans h.prow
  have lowk : ∀ b, b < ob → b < W.heap.size → (W'.setCell ⟨ob, 4, none⟩ (.slice A' (p.eqs.length + 1) c')).heap[b]? = W.heap[b]? := fun b hb hlt => (kq b hb).trans (kp b (by omega) hlt)
  refine ⟨hbW.setCell (by show w.heap.size ≤ ob; omega) _, ⟨hl.1, hl.2.1, by rw [hsz]; omega⟩, hrow', (lowk _ (by omega) (by omega)).trans h.zrow, ?_, own_by' h.ins (fun b _ hv hlt => lowk b (h.old.1 b hv) hlt), own_by' h.outs (fun b _ hv hlt => lowk b (h.old.2.1 b hv) hlt), own_by' h.locals (fun b _ hv hlt => lowk b (h.old.2.2 b hv) hlt), h.old, ?_, ?_, h.toks⟩
  · rw [heap_setCell_same _ ob 4 _ _ _ hpr]
    unfold pgRow
    dsimp only
    rw [hlen]
    rfl
  · unfold eqSl
    dsimp only
    rw [hlen]
    exact own_by' ho (fun b hb _ hlt => kp' b (by omega) hlt)
  · have e : eqSl { L with ae := A', ce := c' } { p with eqs := p.eqs ++ [q] } = .slice A' (p.eqs.length + 1) c' := by unfold eqSl; dsimp only; rw [hlen]
    rw [e]
    exact inn'.same (fun b hb hlt => kp' b hb.1 hlt)
end Go.Proofs.Ytilkilffkjhhbaa
namespace Go.Proofs.Ytilkilffkjhhbaa
set_option maxRecDepth 20000
set_option linter.unusedVariables false
open Go.RowKit Tr Mem

theorem head_any (bp : Nat) (A : Option Addr) (c : Nat) (ts : List Lx.Tok) (s : St) (w : World) (h : RowAt w bp 61 A c ts s) :
    Calls Try.prog 31 #[.pointer (some ⟨bp, 0, none⟩)] w (HeadPost w bp A c ts (headP ts s)) := by
  unfold headP localsP
  dsimp only
  rcases h1 : sees ts (Tr.need ts (declsP ts (Tr.need ts (declsP ts (Tr.name ts (Tr.need ts s wNode)).2).2 wReturns)).2 [59]) wVar with _ | _
  · rw [if_neg (by decide)]
    exact head_plain bp A c ts s w h _ _ _ _ _ _ _ _ _ rfl rfl rfl rfl rfl rfl _ h1 rfl
  · rw [if_pos rfl]
    exact head_own bp A c ts s w h _ _ _ _ _ _ _ _ _ rfl rfl rfl rfl rfl rfl _ _ _ h1 rfl rfl
theorem infoEqP : (Try.prog.info? 56).map (fun i => (i.zero, i.size, i.bytes)) = some (some (.agg #[.string ⟨#[]⟩, .int .i64 0, .int .i64 0, .int .i32 0, .string ⟨#[]⟩, .slice none 0 0, .int .i64 0, .int .i32 0, .string ⟨#[]⟩, .slice none 0 0]), 10, 136) := by kernel_rfl
def Halt (p : Prop) : Prop := p
theorem haltAt {p : Prop} (h : Halt p) : p := h
/-- what Parse hands back -/
def ParsePost (w : World) (r : Pg × Int × Int) (e : Ending) (w' : World) : Prop :=
  ∃ L, e = .returned (.tuple #[pgAgg r.1 L, .int .i64 r.2.1, .int .i64 r.2.2]) ∧ PgAt w' (fun b => w.heap.size ≤ b) r.1 L ∧ Below w.heap.size w w'
theorem scan_len (l : Lx.Bs) : (Lx.scan l).1.length ≤ 4096 := by
  by_cases hs : 4096 < l.length
  · rw [Lx.scan_big hs]; simp
  · have := (scan_size l).2; omega
theorem PS.fin {w W : World} {bp ob : Nat} {A : Option Addr} {c : Nat} {ts : List Lx.Tok} {s : St} {p : Pg} {L : Lie} {xs : List Value} (h : PS w W bp ob A c ts s p L xs) (cs : Array Value) : ParsePost w (p, 0, 0) (.returned (.tuple #[pgAgg p L, .int .i64 0, .int .i64 0])) (W.setRow w.heap.size cs) := by
  have hl := h.lo
  have k : ∀ b, w.heap.size < b → b < W.heap.size → (W.setRow w.heap.size cs).heap[b]? = W.heap[b]? := fun b hb _ => setRow_other _ _ _ _ (by omega)
  refine ⟨L, rfl, ⟨VarsAt.of_own (own_by' h.ins (fun b hb _ hlt => k b (by omega) hlt)), VarsAt.of_own (own_by' h.outs (fun b hb _ hlt => k b (by omega) hlt)), VarsAt.of_own (own_by' h.locals (fun b hb _ hlt => k b (by omega) hlt)), ?_⟩, below_setRow_ h.below (Nat.le_refl _)⟩
  exact EqsAt.of_own (own_by' h.eqs (fun b hb _ hlt => k b (by omega) hlt)) ((h.inn.same (fun b hb hlt => k b (by have := hb.1; omega) hlt)).base (fun b hb _ => by have := hb.1; omega))
set_option maxRecDepth 100000 in
set_option maxHeartbeats 16000000 in
theorem parse_any (l : Lx.Bs) (hl : l.length ≤ maxLen) (w : World) : Calls Try.prog 12 #[.string ⟨l.toArray⟩] w (ParsePost w (parse l)) := by
  have HS := Lib.hid (fun W => lexscan l hl W)
  unfold ScanGives at HS
  have hlen := scan_len l
  have HFT := Lib.hid (scan_fit l)
  obtain ⟨r, hr⟩ : ∃ r, r = parse l := ⟨_, rfl⟩
  rw [← hr]
  unfold parse at hr
  generalize Lx.scan l = sc at *
  obtain ⟨ts, er, pl⟩ := sc
  dsimp only at hlen HFT hr
  have HW0 : Hid (∀ V, Below w.heap.size w (w.alloc V)) := fun V => (Below.refl _ _).alloc (Nat.le_refl _) V
  have hl9 : l.length ≤ 9223372036854775807 := by unfold maxLen at hl; omega
  by_cases he : er ≠ 0
  · rw [if_pos he] at hr
    subst hr
    go_enter Try.func12, Try.ntmps12
    go_wp2_with fail
    obtain ⟨W0, hW0⟩ : ∃ W0, W0 = w.alloc (.cells zpg 26) := ⟨_, rfl⟩
    unfold zpg at hW0
    rw [← hW0]
    have HB0 : Hid (Below w.heap.size w W0) := by rw [hW0]; exact HW0.out _
    have HZ0 : Hid (W0.heap[w.heap.size]? = some (.cells zpg 26 (0, 0))) := by rw [hW0]; exact heap_alloc_new _ _
    clear hW0
    refine (HS.out _).mono ?_
    rintro e w1 ⟨v, rfl, ho, hb⟩
    have HZ1 := Lib.hid ((hb.block _ (Array.getElem?_eq_some_iff.1 HZ0.out).1).trans HZ0.out)
    have HB1 := Lib.hid (HB0.out.trans (hb.mono HB0.out.size))
    clear ho hb HZ0 HB0
    dsimp only
    have hne : (er != 0) = true := by simpa using he
    go_wp2_with ((refine wpList_store_row rfl 26 (.tmp 2) (.tmp 21) rfl w.heap.size zpg rfl rfl 26 zpg HZ1.out infoPg rfl zpg_one ?_))
    exact ret_row_tmp2 2 3 4 rfl rfl rfl rfl rfl (setRow_heap _ _ _ zpg _ _ HZ1.out) Try.underlying26 infoPg ⟨Lie.zero, rfl, pgAt_zero _ _ _, below_setRow_ HB1.out (Nat.le_refl _)⟩
  · rw [if_neg he] at hr
    obtain rfl : er = 0 := by simpa using he
    clear he
    rw [parseT_fin] at hr
    have HHD := Lib.hid (fun bp A c W h => head_any bp A c ts ⟨0, false⟩ W h)
    have hhe : (headP ts ⟨0, false⟩).1.eqs = [] := rfl
    generalize headP ts ⟨0, false⟩ = hd at *
    obtain ⟨hp, hs⟩ := hd
    dsimp only at hr hhe
    unfold HeadPost at HHD
    dsimp only at HHD
    have HRR := Lib.hid hr
    clear hr
    go_enter Try.func12, Try.ntmps12
    go_wp2_with fail
    obtain ⟨W0, hW0⟩ : ∃ W0, W0 = w.alloc (.cells zpg 26) := ⟨_, rfl⟩
    unfold zpg at hW0
    rw [← hW0]
    have HB0 : Hid (Below w.heap.size w W0) := by rw [hW0]; exact HW0.out _
    have HZ0 : Hid (W0.heap[w.heap.size]? = some (.cells zpg 26 (0, 0))) := by rw [hW0]; exact heap_alloc_new _ _
    clear hW0
    refine (HS.out _).mono ?_
    rintro e w1 ⟨v, rfl, ho, hb⟩
    obtain ⟨A, c, rfl⟩ := own_slice ho
    have hbo : ∀ b o q, A = some ⟨b, o, q⟩ → b < w1.heap.size := by
      intro b o q e
      subst e
      exact (ho.lt b rfl).2
    have HTK := Lib.hid (TokAt.of_own ho)
    have HZ1 := Lib.hid ((hb.block _ (Array.getElem?_eq_some_iff.1 HZ0.out).1).trans HZ0.out)
    have HB1 := Lib.hid (HB0.out.trans (hb.mono HB0.out.size))
    have HBO := Lib.hid hbo
    clear ho hb HZ0 HB0 hbo
    dsimp only
    have hzl := (Array.getElem?_eq_some_iff.1 HZ1.out).1
    go_wp2_with fail
    obtain ⟨W2, hW2⟩ : ∃ W2, W2 = w1.alloc (.cells #[.slice A ts.length c, .int .i64 0, .bool false] 61) := ⟨_, rfl⟩
    rw [← hW2]
    have hb2 : Below w1.heap.size w1 W2 := by rw [hW2]; exact (Below.refl _ _).alloc (Nat.le_refl _) _
    have HP2 : Hid (W2.heap[w1.heap.size]? = some (.cells #[.slice A ts.length c, .int .i64 0, .bool false] 61 (0, 0))) := by rw [hW2]; exact heap_alloc_new _ _
    have HR2 : Hid (RowAt W2 w1.heap.size 61 A c ts ⟨0, false⟩) := ⟨HP2.out, HTK.out.below hb2 (.inl (Nat.le_refl _)), fun b o q e => by have := HBO.out b o q e; omega, Nat.zero_le _, hlen⟩
    have HZ2 := Lib.hid ((hb2.block _ hzl).trans HZ1.out)
    have HB2 := Lib.hid (HB1.out.trans (hb2.mono HB1.out.size))
    clear hW2 hb2 HP2 HZ1 HB1
    refine (HHD.out _ _ _ _ HR2.out).mono ?_
    rintro e w3 ⟨vi, vo, vl, rfl, hi, ho, hv, hk⟩
    obtain ⟨Ai, ci, rfl⟩ := own_slice hi
    obtain ⟨Ao, co, rfl⟩ := own_slice ho
    obtain ⟨Al, cl, rfl⟩ := own_slice hv
    unfold pgCells
    have h2s := HR2.out.lt
    have h3s := hk.2.size
    have HK := Lib.hid hk
    have HI := Lib.hid hi
    have HO := Lib.hid ho
    have HV := Lib.hid hv
    clear hk hi ho hv
    go_wp2_with fail
    obtain ⟨W4, hW4⟩ : ∃ W4, W4 = w3.alloc (.cells #[.string ⟨hp.name.toArray⟩, .slice Ai hp.ins.length ci, .slice Ao hp.outs.length co, .slice Al hp.locals.length cl, .slice none 0 0] 26) := ⟨_, rfl⟩
    rw [← hW4]
    have hb4 : Below w3.heap.size w3 W4 := by rw [hW4]; exact (Below.refl _ _).alloc (Nat.le_refl _) _
    have HPS : Hid (PS w W4 w1.heap.size w3.heap.size A c ts hs { hp with eqs := [] } ⟨Ai, ci, Ao, co, Al, cl, none, 0⟩ []) := by
      have hb3 : Below w.heap.size w w3 := HB2.out.trans (below_of_grown HK.out.2 (by omega) (fun k e => by injection e; omega))
      have z3 := HK.out.row HZ2.out (by omega)
      have hs4 : w3.heap.size < W4.heap.size := by rw [hW4]; simp
      refine ⟨hb3.trans (hb4.mono hb3.size), ⟨hzl, by omega, hs4⟩, HK.out.1.below hb4 (Nat.le_refl _), (hb4.block _ (by omega)).trans z3, ?_, own_base (Mem.own_below HI.out hb4) (by omega), own_base (Mem.own_below HO.out hb4) (by omega), own_base (Mem.own_below HV.out hb4) (by omega), ⟨fun k e => (HI.out.lt k e).2, fun k e => (HO.out.lt k e).2, fun k e => (HV.out.lt k e).2⟩, World.ownsRow_nil _ _ _ _, rfl, fun b o q e => HBO.out b o q e⟩
      rw [hW4]; exact heap_alloc_new _ _
    have HEQ := Lib.hid (fun bp s W h => equation_any bp A c ts s W h)
    have HTE := Lib.hid (fun bp s W h => take_any bp A c ts s wTel W h)
    clear hW4 hb4 HK HI HO HV HR2 HZ2 HB2 HHD HS hzl h2s h3s
    generalize w1.heap.size = bp at *
    generalize w3.heap.size = ob at *
    obtain ⟨i0, hi, hz0, hz1, hz2⟩ := info_parts infoEqP
    go_loopw [42] (fun v wr => ∃ (es : List Eqn) (s' : St) (L : Lie) (xs : List Value), Hid (r = finT ts l.length { hp with eqs := es } es (eqsL ts l.length s')) ∧ es.length ≤ s'.at_ ∧ Hid (∀ q ∈ es, EqFit q) ∧ Hid (PS w wr bp ob A c ts s' { hp with eqs := es } L xs)) (fun _ wr => meas wr bp ts.length)
    case atStart => exact ⟨[], hs, _, [], by rw [HRR.out]; rfl, Nat.zero_le _, fun q hq => by simp at hq, HPS.out⟩
    case round =>
      obtain ⟨es, s', L, xs, HJ, hes, HEF, HP⟩ := hrel
      have hle := HP.out.row.le
      have hme := HP.out.row.meas ts.length
      obtain ⟨q0, q1, q2, q3, q4, q5⟩ := row6 HP.out.row
      have hlo := HP.out.lo
      rcases hb : s'.bad with _ | _
      · rw [hb] at q2 hme
        rcases h2 : sees ts s' wTel with _ | _
        · have HT := Lib.hid (fun W h => HTE.out bp s' W h)
          rw [h2, if_neg (by decide)] at HT
          unfold wTel at HT
          go_wp2_with fail
          refine (HT.out _ HP.out.row).mono ?_
          rintro e w5 ⟨rfl, hk5⟩
          have HP5 := Lib.hid (HP.out.took hk5)
          clear hk5
          go_wp2_with fail
          refine (where_any _ _ _ _ s' (l.length : Int) _ HP5.out.row).mono ?_
          rintro e w6 ⟨rfl, hb6⟩
          have HP6 := Lib.hid (HP5.out.by hb6)
          clear hb6
          go_wp2_with fail
          refine (HEQ.out bp s' _ HP6.out.row).mono ?_
          have hlo6 := HP6.out.lo
          have HFE := Lib.hid (eqP_fit HFT.out s')
          have hea := eqP_at ts s'
          have heo := eqP_ok (ts := ts) (s := s')
          have hf1 := finT_fail (ts := ts) (N := (l.length : Int)) (h := { hp with eqs := es }) (done := es) hb h2
          have hf2 := finT_wrong (ts := ts) (N := (l.length : Int)) (h := { hp with eqs := es }) (done := es) hb h2
          have hf3 := finT_next (ts := ts) (N := (l.length : Int)) (h := { hp with eqs := es }) (done := es) hb h2
          rintro e w7 ⟨AF, cF, AE, cE, rfl, ha1, ha2, hk7⟩
          have hsz7 := hk7.2.size
          have HP7 := Lib.hid (HP6.out.took hk7)
          have HA1 := Lib.hid ha1
          have HA2 := Lib.hid ha2
          clear ha1 ha2 hk7
          generalize eqP ts s' = q at *
          obtain ⟨q, s2⟩ := q
          unfold eqCells
          dsimp only at *
          have HF1 := Lib.hid hf1
          have HF2 := Lib.hid hf2
          have HF3 := Lib.hid hf3
          have HEA := Lib.hid heo
          clear hf1 hf2 hf3 heo
          go_upto_region 9 with (fail)
          obtain ⟨W8, hW8⟩ : ∃ W8, W8 = w7.alloc (.cells #[.string ⟨q.name.toArray⟩, .int .i64 q.delay, .int .i64 q.first.kind, .int .i32 q.first.n, .string ⟨q.first.name.toArray⟩, .slice AF q.first.sub.length cF, .int .i64 q.e.kind, .int .i32 q.e.n, .string ⟨q.e.name.toArray⟩, .slice AE q.e.sub.length cE] 56) := ⟨_, rfl⟩
          rw [← hW8]
          have hb8 : Below w7.heap.size w7 W8 := by rw [hW8]; exact (Below.refl _ _).alloc (Nat.le_refl _) _
          have HQ8 : Hid (W8.heap[w7.heap.size]? = some (.cells #[.string ⟨q.name.toArray⟩, .int .i64 q.delay, .int .i64 q.first.kind, .int .i32 q.first.n, .string ⟨q.first.name.toArray⟩, .slice AF q.first.sub.length cF, .int .i64 q.e.kind, .int .i32 q.e.n, .string ⟨q.e.name.toArray⟩, .slice AE q.e.sub.length cE] 56 (0, 0))) := by rw [hW8]; exact heap_alloc_new _ _
          have HP8 := Lib.hid (HP7.out.by hb8)
          have oK : ∀ b, w6.heap.size ≤ b → ownK ob (eqSl L { hp with eqs := es }) b := fun b hb => ⟨by omega, fun k hk => by have := (HP6.out.eqs.lt k hk).2; omega⟩
          have HA18 := Lib.hid ((HA1.out.base (B' := ownK ob (eqSl L { hp with eqs := es })) (fun b hb _ => oK b hb)).below hb8 (Nat.le_refl _))
          have HA28 := Lib.hid ((HA2.out.base (B' := ownK ob (eqSl L { hp with eqs := es })) (fun b hb _ => oK b hb)).below hb8 (Nat.le_refl _))
          have hsz8 : w7.heap.size < W8.heap.size := by rw [hW8]; simp
          clear hW8 hb8 oK HA1 HA2 HP7 HP6 HP5 q0 q1 q2 q3 q4 q5
          obtain ⟨q0, q1, q2, q3, q4, q5⟩ := row6 HP8.out.row
          rcases hb2 : s2.bad with _ | _
          · rw [hb2] at q2
            have HF2' := Lib.hid (HF2.out hb2)
            have HF3' := Lib.hid (HF3.out hb2)
            have HEA' := HEA.out hb2
            obtain ⟨⟨m1, m2, m3, m4, m5, m6, m7, m8, m9⟩, -⟩ := row10 HQ8.out
            have m0 := cell_of_row W8 w7.heap.size 0 _ _ _ HQ8.out
            simp only [List.getElem?_toArray] at m0
            clear HF1 HF2 HF3 HEA
            go_wp2_with fail
            refine (right_any q.e _ AE cE _ HA28.out HFE.out.2.2).mono ?_
            rintro e w9 ⟨rfl, hb9⟩
            have HP9 := Lib.hid (HP8.out.by hb9)
            have HQ9 := Lib.hid ((hb9.block _ (Array.getElem?_eq_some_iff.1 HQ8.out).1).trans HQ8.out)
            have HA19 := Lib.hid (HA18.out.below hb9 (Nat.le_refl _))
            have HA29 := Lib.hid (HA28.out.below hb9 (Nat.le_refl _))
            have hsz9 := hb9.size
            clear hb9 HP8 HQ8 HA18 HA28 q0 q1 q2 q3 q4 q5 m0 m1 m2 m3 m4 m5 m6 m7 m8 m9
            by_cases hr0 : right q.e = 0
            · have HJ1 := Lib.hid (HJ.out.trans (HF3'.out hr0))
              rw [hr0]
              have hp9 := HP9.out.prow
              unfold pgRow at hp9
              dsimp only at hp9
              obtain ⟨⟨n1, n2, n3, n4⟩, n5, n6, n7, n8⟩ := row5 hp9
              have hro := HP9.out.eqs
              unfold eqSl at hro
              dsimp only at hro
              have HRO := Lib.hid hro
              have hle2 := HP9.out.row.le
              have hlo9 := HP9.out.lo
              clear hp9 hro HF2'
              go_wp2_with (first | (refine wpList_load_row rfl 56 (.tmp 11) rfl w7.heap.size rfl 56 #[.string ⟨q.name.toArray⟩, .int .i64 q.delay, .int .i64 q.first.kind, .int .i32 q.first.n, .string ⟨q.first.name.toArray⟩, .slice AF q.first.sub.length cF, .int .i64 q.e.kind, .int .i32 q.e.n, .string ⟨q.e.name.toArray⟩, .slice AE q.e.sub.length cE] (0, 0) _ HQ9.out Try.underlying56 rfl infoEq ?_) | (at_builtin; refine wpList_append_own_at _ rfl _ _ 24 rfl (ob + 1) 56 i0 _ 10 136 Try.underlying24 hi hz0 hz1 hz2 rfl (by decide) _ _ _ rfl (HRO.out.alloc _) ⟨w9.heap.size, 0, none⟩ 1 1 (eqCells q AF cF AE cE) rfl rfl ?c1 ?c2 ?c3 ?c4 ?c5 ?_))
              case c1 => exact Go.Proofs.Ytilkilffkjhhbaa.cells_new _ _ _ _ rfl
              case c2 => exact eqCells_one _ _ _ _ _
              case c3 => unfold maxLen; omega
              case c4 => omega
              case c5 => simp; omega
              intro v' w10 hown hgrow _ hv'
              obtain ⟨A', c', rfl⟩ := own_slice hown
              have hba : Below w9.heap.size w9 (w9.alloc (.cells #[.string ⟨q.name.toArray⟩, .int .i64 q.delay, .int .i64 q.first.kind, .int .i32 q.first.n, .string ⟨q.first.name.toArray⟩, .slice AF q.first.sub.length cF, .int .i64 q.e.kind, .int .i32 q.e.n, .string ⟨q.e.name.toArray⟩, .slice AE q.e.sub.length cE] 56)) := (Below.refl _ _).alloc (Nat.le_refl _) _
              have hp9a := HP9.out.by hba
              have hp10 : w10.heap[ob]? = some (.cells (pgRow { hp with eqs := es } L) 26 (0, 0)) := (hgrow.block _ hp9a.lo.2.2 (fun e => by have := (hp9a.eqs.lt ob e.symm).1; omega)).trans hp9a.prow
              have HAPP := Lib.hid (hp9a.app (HA19.out.below hba (Nat.le_refl _)) (HA29.out.below hba (Nat.le_refl _)) hown hgrow (by rcases hv' with e | e <;> first | exact .inl e | exact .inr (by rw [e]; simp)))
              unfold pgRow at hp10
              dsimp only at hp10
              obtain ⟨⟨n1, n2, n3, n4⟩, n5, n6, n7, n8⟩ := row5 hp10
              clear hown hgrow hv' hba hp9a hp10
              go_wp2_with fail
              go_roundw
              case rel => exact ⟨es ++ [q], s2, _, _, HJ1, by simp; omega, fun q' hq' => by
                rcases List.mem_append.1 hq' with h | h
                · exact HEF.out q' h
                · rw [List.mem_singleton.1 h]; exact HFE.out, HAPP⟩
              case measure => rw [hme, HAPP.out.row.meas, hb2]; have := HAPP.out.row.le; simp; omega
            · have HJ1 := Lib.hid (HJ.out.trans (HF2'.out hr0))
              have hne : (right q.e != 0) = true := by simpa using hr0
              clear HF3'
              go_wp2_with (refine wpList_store_row rfl 26 (.tmp 2) (.tmp 61) rfl w.heap.size zpg rfl rfl 26 zpg HP9.out.zrow infoPg rfl zpg_one ?_)
              rw [HJ1.out]
              exact ret_row_tmp2 2 3 4 rfl rfl rfl rfl rfl (setRow_heap _ _ _ zpg _ _ HP9.out.zrow) Try.underlying26 infoPg ⟨Lie.zero, rfl, pgAt_zero _ _ _, below_setRow_ HP9.out.below (Nat.le_refl _)⟩
          · rw [hb2] at q2
            have HJ1 : Hid (r = (Pg.zero, 16, plc ts s2 l.length)) := HJ.out.trans (HF1.out hb2)
            go_wp2_with fail
            refine (where_any _ _ _ _ s2 (l.length : Int) _ HP8.out.row).mono ?_
            rintro e w9 ⟨rfl, hb9⟩
            have HP9 := Lib.hid (HP8.out.by hb9)
            clear hb9
            go_wp2_with (refine wpList_store_row rfl 26 (.tmp 2) (.tmp 85) rfl w.heap.size zpg rfl rfl 26 zpg HP9.out.zrow infoPg rfl zpg_one ?_)
            rw [HJ1.out]
            exact ret_row_tmp2 2 3 4 rfl rfl rfl rfl rfl (setRow_heap _ _ _ zpg _ _ HP9.out.zrow) Try.underlying26 infoPg ⟨Lie.zero, rfl, pgAt_zero _ _ _, below_setRow_ HP9.out.below (Nat.le_refl _)⟩
        · have HT := Lib.hid (fun W h => HTE.out bp s' W h)
          rw [h2, if_pos rfl] at HT
          unfold wTel at HT
          have HFT2 := Lib.hid (HJ.out.trans (finT_tel hb h2))
          go_wp2_with fail
          refine (HT.out _ HP.out.row).mono ?_
          rintro e w5 ⟨rfl, hk5⟩
          have HP5 := Lib.hid (HP.out.took hk5)
          clear hk5 q0 q1 q2 q3 q4 q5
          obtain ⟨q0, q1, q2, q3, q4, q5⟩ := row6 HP5.out.row
          have hle5 := HP5.out.row.le
          have hbb : s'.adv.bad = false := hb
          rw [hbb] at q2
          rw [adv_at] at q1 hle5
          by_cases hend : s'.at_ + 1 < ts.length
          · have HJ1 : Hid (r = (Pg.zero, 16, plc ts s'.adv l.length)) := by have h := HFT2.out; rw [if_pos hend] at h; exact h
            go_wp2_with fail
            refine (where_any _ _ _ _ s'.adv (l.length : Int) _ HP5.out.row).mono ?_
            rintro e w9 ⟨rfl, hb9⟩
            have HP9 := Lib.hid (HP5.out.by hb9)
            clear hb9
            go_wp2_with (refine wpList_store_row rfl 26 (.tmp 2) (.tmp 85) rfl w.heap.size zpg rfl rfl 26 zpg HP9.out.zrow infoPg rfl zpg_one ?_)
            rw [HJ1.out]
            exact ret_row_tmp2 2 3 4 rfl rfl rfl rfl rfl (setRow_heap _ _ _ zpg _ _ HP9.out.zrow) Try.underlying26 infoPg ⟨Lie.zero, rfl, pgAt_zero _ _ _, below_setRow_ HP9.out.below (Nat.le_refl _)⟩
          · have HJ1 : Hid (r = ({ hp with eqs := es }, 0, 0)) := by have h := HFT2.out; rw [if_neg hend] at h; exact h
            go_wp2_with (first | (refine wpList_load_row rfl 26 (.tmp 9) rfl ob rfl 26 (pgRow { hp with eqs := es } L) (0, 0) _ HP5.out.prow Try.underlying26 rfl infoPg ?_) | (refine wpList_store_row rfl 26 (.tmp 2) (.tmp 92) rfl w.heap.size (pgRow { hp with eqs := es } L) rfl rfl 26 zpg HP5.out.zrow infoPg rfl (pgRow_one _ _) ?_))
            rw [HJ1.out]
            exact ret_row_tmp2 2 3 4 rfl rfl rfl rfl rfl (setRow_heap _ _ _ _ _ _ HP5.out.zrow) Try.underlying26 infoPg (HP5.out.fin _)
      · have HJ1 : Hid (r = (Pg.zero, 16, plc ts s' l.length)) := HJ.out.trans (finT_bad hb)
        rw [hb] at q2 hme
        go_wp2_with fail
        refine (where_any _ _ _ _ s' (l.length : Int) _ HP.out.row).mono ?_
        rintro e w9 ⟨rfl, hb9⟩
        have HP9 := Lib.hid (HP.out.by hb9)
        clear hb9
        go_wp2_with (refine wpList_store_row rfl 26 (.tmp 2) (.tmp 85) rfl w.heap.size zpg rfl rfl 26 zpg HP9.out.zrow infoPg rfl zpg_one ?_)
        rw [HJ1.out]
        exact ret_row_tmp2 2 3 4 rfl rfl rfl rfl rfl (setRow_heap _ _ _ zpg _ _ HP9.out.zrow) Try.underlying26 infoPg ⟨Lie.zero, rfl, pgAt_zero _ _ _, below_setRow_ HP9.out.below (Nat.le_refl _)⟩
end Go.Proofs.Ytilkilffkjhhbaa
namespace Go.Proofs.Ytilkilffkjhhbaa
set_option maxRecDepth 20000
set_option linter.unusedVariables false
open Go.RowKit Tr Mem

theorem pgFit_zero : PgFit Pg.zero := by
  refine ⟨by simp [Pg.zero], ⟨by simp [Pg.zero], ?_⟩, ⟨by simp [Pg.zero], ?_⟩, ⟨by simp [Pg.zero], ?_⟩, ⟨by simp [Pg.zero], ?_⟩⟩ <;> intro v hv <;> simp [Pg.zero] at hv
section
variable {ts : List Lx.Tok} (ht : TokFit ts)
include ht
theorem declP_fit (s : St) : VrFit (declP ts s).1 := by
  unfold declP
  split <;> exact ⟨ht.name _, by simp⟩
theorem ownP_fit (s : St) : VrFit (ownP ts s).1 := by
  have h := declP_fit ht s
  unfold ownP
  split
  · exact ⟨h.1, ht.name _⟩
  · split
    · exact ⟨h.1, ht.name _⟩
    · exact h
theorem declsF_fit : ∀ (f : Nat) (s : St), (declsF ts f s).1.length ≤ f ∧ ∀ v ∈ (declsF ts f s).1, VrFit v
  | 0, s => by rw [declsF]; exact ⟨by simp, fun v hv => by simp at hv⟩
  | f + 1, s => by
    rw [declsF]
    split
    · have ih := declsF_fit f (declP ts s).2.adv
      refine ⟨by simp only [List.length_cons]; omega, fun v hv => ?_⟩
      rcases List.mem_cons.1 hv with rfl | hv
      · exact declP_fit ht s
      · exact ih.2 v hv
    · refine ⟨by simp, fun v hv => ?_⟩
      simp only [List.mem_cons, List.not_mem_nil, or_false] at hv
      subst hv; exact declP_fit ht s
theorem declsP_fit (hn : ts.length ≤ 4096) (s : St) : (declsP ts s).1.length ≤ maxLen ∧ ∀ v ∈ (declsP ts s).1, VrFit v := by
  unfold declsP
  split
  · exact ⟨by simp, fun v hv => by simp at hv⟩
  · have h := declsF_fit ht (ts.length - (Tr.need ts s [40]).at_ + 1) (Tr.need ts s [40])
    exact ⟨by unfold declsL maxLen; omega, h.2⟩
theorem ownsF_fit : ∀ (f : Nat) (s : St), (ownsF ts f s).1.length ≤ f ∧ ∀ v ∈ (ownsF ts f s).1, VrFit v
  | 0, s => by rw [ownsF]; exact ⟨by simp, fun v hv => by simp at hv⟩
  | f + 1, s => by
    rw [ownsF]
    split
    · refine ⟨by simp, fun v hv => ?_⟩
      simp only [List.mem_cons, List.not_mem_nil, or_false] at hv
      subst hv; exact ownP_fit ht s
    · have ih := ownsF_fit f (ownP ts s).2
      refine ⟨by simp only [List.length_cons]; omega, fun v hv => ?_⟩
      rcases List.mem_cons.1 hv with rfl | hv
      · exact ownP_fit ht s
      · exact ih.2 v hv
theorem localsP_fit (hn : ts.length ≤ 4096) (s : St) : (localsP ts s).1.length ≤ maxLen ∧ ∀ v ∈ (localsP ts s).1, VrFit v := by
  unfold localsP
  split
  · have h := ownsF_fit ht (ts.length - s.adv.at_ + 1) s.adv
    exact ⟨by unfold ownsL maxLen; omega, h.2⟩
  · exact ⟨by simp, fun v hv => by simp at hv⟩
theorem eqsF_fit (N : Int) : ∀ (f : Nat) (s : St), (eqsF ts N f s).2.1.length ≤ f ∧ ∀ q ∈ (eqsF ts N f s).2.1, EqFit q
  | 0, s => by rw [eqsF]; exact ⟨by simp, fun v hv => by simp at hv⟩
  | f + 1, s => by
    have z : ∀ (a : Option (Int × Int)) (s' : St), ((a, ([] : List Eqn), s').2.1.length ≤ f + 1) ∧ ∀ q ∈ (a, ([] : List Eqn), s').2.1, EqFit q := fun a s' => ⟨by simp, fun v hv => by simp at hv⟩
    rw [eqsF]
    split
    · exact z _ _
    · split
      · exact z _ _
      · split
        · exact z _ _
        · split
          · exact z _ _
          · have ih := eqsF_fit N f (eqP ts s).2
            refine ⟨by simp only [List.length_cons]; omega, fun v hv => ?_⟩
            rcases List.mem_cons.1 hv with rfl | hv
            · exact eqP_fit ht s
            · exact ih.2 v hv
theorem parseT_fit (hn : ts.length ≤ 4096) (N : Int) : PgFit (parseT ts N).1 := by
  have h := eqsF_fit ht N (ts.length - (headP ts ⟨0, false⟩).2.at_ + 1) (headP ts ⟨0, false⟩).2
  unfold parseT eqsL
  generalize eqsF ts N (ts.length - (headP ts ⟨0, false⟩).2.at_ + 1) (headP ts ⟨0, false⟩).2 = r at *
  obtain ⟨a, es, s'⟩ := r
  dsimp only at h
  cases a with
  | some e => exact pgFit_zero
  | none =>
    dsimp only
    split
    · exact pgFit_zero
    · unfold headP
      exact ⟨ht.name _, declsP_fit ht hn _, declsP_fit ht hn _, localsP_fit ht hn _, ⟨by dsimp only; unfold maxLen; omega, h.2⟩⟩
end
theorem parse_pgFit (l : Lx.Bs) : PgFit (parse l).1 := by
  unfold parse
  split
  · exact pgFit_zero
  · exact parseT_fit (scan_fit l) (scan_len l) _
end Go.Proofs.Ytilkilffkjhhbaa
