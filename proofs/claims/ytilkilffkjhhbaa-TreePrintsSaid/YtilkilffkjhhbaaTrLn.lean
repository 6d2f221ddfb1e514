/-
  The reference's Lent: a program in new memory.
-/
import Derived.Test.YtilkilffkjhhbaaTrCp
namespace Go.Proofs.Ytilkilffkjhhbaa
set_option maxRecDepth 20000
set_option linter.unusedVariables false
open Go.RowKit Tr Mem

section
variable {P : Program}
theorem wpList_buildSlice0 {ops : Array Oper} {rest : List Oper} {o : Oper} {a : Act} {w : World} {Q : Exit → Act → World → Prop} (hg : o.guard = none) (t e : TypeId) (ho : o.op = .buildSlice t 0 #[])
    (ie : TypeInfo) (hu : P.underlying t = some (.slice e)) (hie : P.info? e = some ie)
    (h : wpList P ops Q rest (a.put o.dst (.slice (some ⟨w.heap.size, 0, none⟩) 0 0)) (w.alloc (.cells #[] e))) : wpList P ops Q (o :: rest) a w := by
  have hr : (Instr.buildSlice t 0 #[]).run P w = .ok (.slice (some ⟨w.heap.size, 0, none⟩) 0 0) (w.alloc (.cells #[] e)) := by
    simp [Instr.buildSlice, run_underlying hu, sizeOf, typeInfo, hie, newRow, Instr.fill]
    rw [show Array.range 0 = #[] by simp]
    simp
  refine wpList_plain hg fun K hK => ?_
  unfold Oper.wp execOp
  simp only [ho, List.map_toArray, List.map_nil, Sem.run_bind, hr, Result.andThen_ok]
  exact hK _ _ h
theorem own_empty {w : World} {g base : Nat} {e : TypeId} (size : Nat) (hg : w.heap[g]? = some (.cells #[] e (0, 0))) (hb : base ≤ g) : w.ownsRow base e size (.slice (some ⟨g, 0, none⟩) 0 0) 0 [] :=
  ⟨by simp, .inr ⟨g, 0, #[], rfl, hb, hg, Nat.le_refl _, Nat.zero_le _, by simp, by simp⟩⟩
/-- a slice is copied: appended to an empty one -/
theorem wpList_copied {ops : Array Oper} {rest : List Oper} {o : Oper} {a : Act} {w : World} {Q : Exit → Act → World → Prop} (hgd : o.guard = none) (s x : Operand) (t : TypeId)
    (ho : o.op = .call { callee := .builtin .append, args := #[s, x], argTypes := #[t, t] })
    (base : Nat) (e : TypeId) (i : TypeInfo) (z : Value) (size bytes : Nat) (ht : P.underlying t = some (.slice e)) (hi : P.info? e = some i) (hz : i.zero = some z)
    (hsize : i.size = size) (hby : i.bytes = bytes) (hzs : z.cells.size = size) (hsz : 0 < size)
    (g : Nat) (hs : a.eval s = .slice (some ⟨g, 0, none⟩) 0 0) (hg : w.heap[g]? = some (.cells #[] e (0, 0))) (hbg : base ≤ g)
    (A : Option Addr) (m c : Nat) (news : List Value) (hx : a.eval x = .slice A m c) (hl : news.length = m * size) (hn : A = none → m = 0) (hc : ∀ ad, A = some ad → ∀ j u, news[j]? = some u → w.cell? (ad.add j) = some u) (h1 : ∀ u ∈ news, u.oneCell' = true)
    (h63 : m ≤ maxLen) (hbytes : m * bytes ≤ 140737488355328)
    (h : ∀ A' c' w', w'.ownsRow base e size (.slice A' m c') m news → w.grownBy w' (some g) → wpList P ops Q rest (a.put o.dst (.slice A' m c')) w') : wpList P ops Q (o :: rest) a w := by
  have hgl := (Array.getElem?_eq_some_iff.1 hg).1
  rcases A with _ | ad
  · obtain rfl := hn rfl
    obtain rfl : news = [] := List.eq_nil_of_length_eq_zero (by simpa using hl)
    refine wpList_plain hgd fun K hK => ?_
    have hrun : (Builtin.append_ #[t, t] o.type #[.slice (some ⟨g, 0, none⟩) 0 0, .slice none 0 c]).run P w = .ok (.slice (some ⟨g, 0, none⟩) 0 0) w := by
      simp [Builtin.append_, run_underlying ht, sizeOf, typeInfo, hi, Builtin.lenOf, Builtin.firstCells, storeCells]
    unfold Oper.wp execOp
    simp only [ho, resolve, invoke, builtin, Sem.run_bind, Sem.run_pure, Result.andThen_ok, List.map_toArray, List.map_cons, List.map_nil, hs, hx, hrun]
    exact hK _ _ (h (some ⟨g, 0, none⟩) 0 w (own_empty size hg hbg) (World.grownBy.refl w _))
  · refine wpList_append_own w hgd s x t ho base e i z size bytes ht hi hz hsize hby hzs hsz _ 0 [] hs (own_empty size hg hbg) ad m c news hx hl (hc ad rfl) h1 (by simpa using h63) (by simpa using hbytes) (Nat.le_trans hbg (Nat.le_of_lt hgl)) ?_
    intro v' w' ho' hgr _
    rw [Nat.zero_add, List.nil_append] at ho'
    obtain ⟨A', c', rfl⟩ := own_slice ho'
    exact h A' c' w' ho' hgr
end
theorem vars_one (l : List Vr) : ∀ u ∈ varsCells l, u.oneCell' = true := by
  induction l with
  | nil => intro u hu; simp [varsCells] at hu
  | cons v r ih =>
    intro u hu
    have e : varsCells (v :: r) = varCells v ++ varsCells r := by simp [varsCells]
    rw [e, List.mem_append] at hu
    rcases hu with h | h
    · exact var_one v u h
    · exact ih u h
theorem vars_len (l : List Vr) : (varsCells l).length = l.length * 4 := by
  induction l with
  | nil => rfl
  | cons v r ih =>
    have e : varsCells (v :: r) = varCells v ++ varsCells r := by simp [varsCells]
    rw [e, List.length_append, ih]
    simp [varCells]; omega
theorem VarsAt.none {w : World} {l : List Vr} (h : VarsAt w none l) : l.length = 0 := by
  rcases l with _ | ⟨v, r⟩
  · rfl
  · obtain ⟨b, off, e, -⟩ := h 0 (by simp); cases e
theorem VarsAt.src {w : World} {A : Option Addr} {l : List Vr} (h : VarsAt w A l) : ∀ ad, A = some ad → ∀ j u, (varsCells l)[j]? = some u → w.cell? (ad.add j) = some u := by
  rintro ad rfl j u hu
  have hj := (List.getElem?_eq_some_iff.1 hu).1
  rw [vars_len] at hj
  obtain ⟨b, off, e, c0, c1, c2, c3⟩ := h (j / 4) (by omega)
  injection e with e
  subst e
  obtain ⟨d0, d1, d2, d3⟩ := varsCells_get l (j / 4) (by omega)
  rw [add_plain]
  rcases (show j = j / 4 * 4 ∨ j = j / 4 * 4 + 1 ∨ j = j / 4 * 4 + 2 ∨ j = j / 4 * 4 + 3 by omega) with e | e | e | e
  · rw [e] at hu; rw [d0] at hu; injection hu with hu; subst hu; rw [show off + j = off + j / 4 * 4 by omega]; exact c0
  · rw [e] at hu; rw [d1] at hu; injection hu with hu; subst hu; rw [show off + j = off + j / 4 * 4 + 1 by omega]; exact c1
  · rw [e] at hu; rw [d2] at hu; injection hu with hu; subst hu; rw [show off + j = off + j / 4 * 4 + 2 by omega]; exact c2
  · rw [e] at hu; rw [d3] at hu; injection hu with hu; subst hu; rw [show off + j = off + j / 4 * 4 + 3 by omega]; exact c3
theorem row_new {w W : World} {t : TypeId} {cs : Array Value} (hW : W = w.alloc (.cells cs t)) : W.heap[w.heap.size]? = some (.cells cs t (0, 0)) ∧ Below w.heap.size w W ∧ w.heap.size < W.heap.size := by
  subst hW
  exact ⟨heap_alloc_new _ _, (Below.refl _ _).alloc (Nat.le_refl _) _, by simp⟩
/-- a list's row is made, and stored -/
structure Ls (w W : World) (rb ob : Nat) (R X : Array Value) : Prop where
  below : Below w.heap.size w W
  lo : w.heap.size < rb ∧ rb < ob ∧ ob < W.heap.size
  erow : W.heap[w.heap.size]? = some (.cells R 26 (0, 0))
  rrow : W.heap[rb]? = some (.cells zpg 26 (0, 0))
  xrow : W.heap[ob]? = some (.cells X 26 (0, 0))
theorem Ls.alloc {w W : World} {rb ob : Nat} {R X : Array Value} (h : Ls w W rb ob R X) (cs : Array Value) (t : TypeId) : Ls w (W.alloc (.cells cs t)) rb ob R X := by
  have hl := h.lo
  exact ⟨h.below.alloc (by omega) _, ⟨hl.1, hl.2.1, by simp; omega⟩, row_alloc h.erow _, row_alloc h.rrow _, row_alloc h.xrow _⟩
theorem ln_below {W W2 : World} {cs : Array Value} {t : TypeId} (hg : (W.alloc (.cells cs t)).grownBy W2 (some W.heap.size)) : Below W.heap.size W W2 :=
  ((Below.refl _ _).alloc (Nat.le_refl _) _).trans (below_of_grown hg (by simp) (fun k e => by injection e; omega))
theorem Ls.by {w W W' : World} {rb ob : Nat} {R X : Array Value} (h : Ls w W rb ob R X) (hb : Below W.heap.size W W') : Ls w W' rb ob R X := by
  have hl := h.lo
  have hs := hb.size
  exact ⟨h.below.trans (hb.mono (by omega)), ⟨hl.1, hl.2.1, by omega⟩, (hb.block _ (by omega)).trans h.erow, (hb.block _ (by omega)).trans h.rrow, (hb.block _ (by omega)).trans h.xrow⟩
theorem Ls.store {w W : World} {rb ob : Nat} {R X : Array Value} (h : Ls w W rb ob R X) (i : Nat) (v : Value) : Ls w (W.setCell ⟨ob, i, none⟩ v) rb ob R (X.setIfInBounds i v) := by
  have hl := h.lo
  exact ⟨h.below.setCell (by show w.heap.size ≤ ob; omega) _, ⟨hl.1, hl.2.1, by simpa using hl.2.2⟩, set1_keep h.erow (by omega) _, set1_keep h.rrow (by omega) _, heap_setCell_same _ ob i _ _ _ h.xrow⟩
theorem own_store {W : World} {ob size n : Nat} {e : TypeId} {v : Value} {xs : List Value} (h : W.ownsRow (ob + 1) e size v n xs) (i : Nat) (u : Value) : (W.setCell ⟨ob, i, none⟩ u).ownsRow (ob + 1) e size v n xs :=
  h.kept (grown_setCell W _ _ u) (.inr fun e => by have := (h.lt ob e).1; omega)
/-- the equations' copies are under way -/
structure LnS (w W : World) (rb ob lim : Nat) (R : Array Value) (p : Pg) (M : Lie) (xs : List Value) : Prop where
  ls : Ls w W rb ob R (pgRow p M)
  bnd : ob < lim ∧ lim ≤ W.heap.size
  ins : W.ownsRow (ob + 1) 73 4 (.slice M.ai p.ins.length M.ci) p.ins.length (varsCells p.ins)
  outs : W.ownsRow (ob + 1) 73 4 (.slice M.ao p.outs.length M.co) p.outs.length (varsCells p.outs)
  locals : W.ownsRow (ob + 1) 73 4 (.slice M.al p.locals.length M.cl) p.locals.length (varsCells p.locals)
  old : (∀ k, (Value.slice M.ai p.ins.length M.ci).ownBlock = some k → k < lim) ∧ (∀ k, (Value.slice M.ao p.outs.length M.co).ownBlock = some k → k < lim) ∧ (∀ k, (Value.slice M.al p.locals.length M.cl).ownBlock = some k → k < lim)
  eqs : W.ownsRow lim 56 10 (eqSl M p) p.eqs.length xs
  inn : EqsIn W (ownK ob (eqSl M p)) p.eqs xs
theorem LnS.by {w W W' : World} {rb ob lim : Nat} {R : Array Value} {p : Pg} {M : Lie} {xs : List Value} (h : LnS w W rb ob lim R p M xs) (hb : Below W.heap.size W W') : LnS w W' rb ob lim R p M xs :=
  ⟨h.ls.by hb, ⟨h.bnd.1, Nat.le_trans h.bnd.2 hb.size⟩, Mem.own_below h.ins hb, Mem.own_below h.outs hb, Mem.own_below h.locals hb, h.old, Mem.own_below h.eqs hb, h.inn.below hb⟩
theorem LnS.app {w W W' : World} {rb ob lim : Nat} {R : Array Value} {p : Pg} {M : Lie} {xs : List Value} (h : LnS w W rb ob lim R p M xs) {q : Eqn} {AF AE : Option Addr} {cF cE : Nat}
    (h1 : At W (ownK ob (eqSl M p)) q.first AF) (h2 : At W (ownK ob (eqSl M p)) q.e AE) {A' : Option Addr} {c' : Nat}
    (ho : W'.ownsRow lim 56 10 (.slice A' (p.eqs.length + 1) c') (p.eqs.length + 1) (xs ++ eqCells q AF cF AE cE)) (hg : W.grownBy W' (eqSl M p).ownBlock)
    (hv : (Value.slice A' (p.eqs.length + 1) c').ownBlock = (eqSl M p).ownBlock ∨ (Value.slice A' (p.eqs.length + 1) c').ownBlock = some W.heap.size) :
    LnS w (W'.setCell ⟨ob, 4, none⟩ (.slice A' (p.eqs.length + 1) c')) rb ob lim R { p with eqs := p.eqs ++ [q] } { M with ae := A', ce := c' } (xs ++ eqCells q AF cF AE cE) := by
  have hl := h.ls.lo
  have hs := hg.size
  have hlim := h.bnd
  have heq : ∀ k, (eqSl M p).ownBlock = some k → lim ≤ k := fun k hk => (h.eqs.lt k hk).1
  have kp : ∀ b, b < lim → b < W.heap.size → W'.heap[b]? = W.heap[b]? := fun b hb hlt => hg.block b hlt (fun e => by have := heq b e.symm; omega)
  have kp' : ∀ b, ob < b → b < W'.heap.size → (W'.setCell ⟨ob, 4, none⟩ (.slice A' (p.eqs.length + 1) c')).heap[b]? = W'.heap[b]? := fun b hb _ => heap_setCell_other _ _ _ _ (by simp only; omega)
  have kq : ∀ b, b < lim → b ≠ ob → (W'.setCell ⟨ob, 4, none⟩ (.slice A' (p.eqs.length + 1) c')).heap[b]? = W.heap[b]? := fun b hb hne => (heap_setCell_other _ _ _ _ hne).trans (kp b hb (by omega))
  have hlen : (p.eqs ++ [q]).length = p.eqs.length + 1 := by simp
  have hbW : Below w.heap.size w W' := h.ls.below.trans (below_of_grown hg (by omega) (fun k e => by have := heq k e; omega))
  have inn' : EqsIn W' (ownK ob (.slice A' (p.eqs.length + 1) c')) (p.eqs ++ [q]) (xs ++ eqCells q AF cF AE cE) := by
    have sm : ∀ b, ownK ob (eqSl M p) b → b < W.heap.size → W'.heap[b]? = W.heap[b]? := fun b hb hlt => hg.block b hlt (fun e => hb.2 b e.symm rfl)
    have bs : ∀ b, ownK ob (eqSl M p) b → b < W.heap.size → ownK ob (.slice A' (p.eqs.length + 1) c') b := fun b hb hlt => ⟨hb.1, fun k hk => by
      rcases hv with e | e
      · rw [e] at hk; exact hb.2 k hk
      · rw [e] at hk; injection hk with hk; omega⟩
    exact EqsIn.snoc (h1.move sm bs) (h2.move sm bs) (((h.inn.base (K' := fun b => ownK ob (eqSl M p) b ∧ b < W.heap.size) (fun b hb hlt => ⟨hb, hlt⟩)).same (fun b hb hlt => sm b hb.1 hlt)).base (fun b hb _ => bs b hb.1 hb.2))
  refine ⟨⟨hbW.setCell (by show w.heap.size ≤ ob; omega) _, ⟨hl.1, hl.2.1, by simp; omega⟩, (kq _ (by omega) (by omega)).trans h.ls.erow, (kq _ (by omega) (by omega)).trans h.ls.rrow, ?_⟩, ⟨hlim.1, by simp; omega⟩,
    own_by' h.ins (fun b hb hv _ => kq b (h.old.1 b hv) (by omega)), own_by' h.outs (fun b hb hv _ => kq b (h.old.2.1 b hv) (by omega)), own_by' h.locals (fun b hb hv _ => kq b (h.old.2.2 b hv) (by omega)), h.old, ?_, ?_⟩
  · rw [heap_setCell_same _ ob 4 _ _ _ ((kp ob hlim.1 hl.2.2).trans h.ls.xrow)]
    unfold pgRow
    dsimp only
    rw [hlen]
    rfl
  · unfold eqSl
    dsimp only
    rw [hlen]
    exact own_by' ho (fun b hb _ hlt => kp' b (by omega) hlt)
  · have e : eqSl { M with ae := A', ce := c' } { p with eqs := p.eqs ++ [q] } = .slice A' (p.eqs.length + 1) c' := by unfold eqSl; dsimp only; rw [hlen]
    rw [e]
    exact inn'.same (fun b hb hlt => kp' b hb.1 hlt)
theorem LnS.fin {w W : World} {rb ob lim : Nat} {R : Array Value} {p : Pg} {M : Lie} {xs : List Value} (h : LnS w W rb ob lim R p M xs) (cs : Array Value) : PgAt (W.setRow rb cs) (fun b => w.heap.size ≤ b) p M ∧ Below w.heap.size w (W.setRow rb cs) := by
  have hl := h.ls.lo
  have hlim := h.bnd
  have k : ∀ b, ob < b → b < W.heap.size → (W.setRow rb cs).heap[b]? = W.heap[b]? := fun b hb _ => setRow_other _ _ _ _ (by omega)
  refine ⟨⟨VarsAt.of_own (own_by' h.ins (fun b hb _ hlt => k b (by omega) hlt)), VarsAt.of_own (own_by' h.outs (fun b hb _ hlt => k b (by omega) hlt)), VarsAt.of_own (own_by' h.locals (fun b hb _ hlt => k b (by omega) hlt)), ?_⟩, below_setRow_ h.ls.below (by omega)⟩
  exact EqsAt.of_own (own_by' h.eqs (fun b hb _ hlt => k b (by omega) hlt)) ((h.inn.same (fun b hb hlt => k b hb.1 hlt)).base (fun b hb _ => by have := hb.1; omega))
set_option maxRecDepth 100000 in
set_option maxHeartbeats 16000000 in
theorem lent_any (p : Pg) (L : Lie) (K : Nat → Prop) (w : World) (hA : PgAt w K p L) (hf : PgFit p) (hl : p.ins.length ≤ 100 ∧ p.outs.length ≤ 100 ∧ p.locals.length ≤ 100 ∧ p.eqs.length ≤ 100) (hs : ∀ q ∈ p.eqs, size q.first ≤ 300 ∧ size q.e ≤ 300) :
    Calls Try.prog 16 #[pgAgg p L] w fun e w' => ∃ M, e = .returned (pgAgg p M) ∧ PgAt w' (fun b => w.heap.size ≤ b) p M ∧ Below w.heap.size w w' := by
  obtain ⟨pn, pi, po, pl, pe⟩ := p
  obtain ⟨ai, ci, ao, co, al, cl, ae, ce⟩ := L
  obtain ⟨hai, hao, hal, hae⟩ := hA
  obtain ⟨-, -, -, -, ⟨-, hfe⟩⟩ := hf
  obtain ⟨hli, hlo, hll, hle⟩ := hl
  obtain ⟨i0, hi, hz0, hz1, hz2⟩ := info_parts infoVr
  obtain ⟨j0, ji, jz0, jz1, jz2⟩ := info_parts infoEqP
  unfold pgAgg
  dsimp only at *
  have HAI := Lib.hid hai
  have HAO := Lib.hid hao
  have HAL := Lib.hid hal
  have HAE := Lib.hid hae
  have HFE := Lib.hid hfe
  have HSZ := Lib.hid hs
  have HNI : Hid (ai = none → pi.length = 0) := fun e => by subst e; exact hai.none
  have HNO : Hid (ao = none → po.length = 0) := fun e => by subst e; exact hao.none
  have HNL : Hid (al = none → pl.length = 0) := fun e => by subst e; exact hal.none
  clear hai hao hal hae hfe hs
  go_enter Try.func16, Try.ntmps16
  go_upto_region 1 with (fail)
  obtain ⟨W0, hW0⟩ : ∃ W0, W0 = (w.alloc (.cells #[.string ⟨pn.toArray⟩, .slice ai pi.length ci, .slice ao po.length co, .slice al pl.length cl, .slice ae pe.length ce] 26)).alloc (.cells #[.string ⟨#[]⟩, .slice none 0 0, .slice none 0 0, .slice none 0 0, .slice none 0 0] 26) := ⟨_, rfl⟩
  rw [← hW0]
  obtain ⟨h0, h1, h2, h3⟩ := alloc2_ _ _ _ _ _ _ hW0
  have HE0 := Lib.hid h0
  have hgr : w.heap.size < w.heap.size + 1 := Nat.lt_succ_self _
  have hs0 : w.heap.size + 1 < W0.heap.size := by rw [h3]; exact Nat.lt_succ_self _
  have HS1 : Hid (Ls w (W0.alloc (.cells #[.string ⟨pn.toArray⟩, .slice ai pi.length ci, .slice ao po.length co, .slice al pl.length cl, .slice ae pe.length ce] 26)) (w.heap.size + 1) W0.heap.size #[.string ⟨pn.toArray⟩, .slice ai pi.length ci, .slice ao po.length co, .slice al pl.length cl, .slice ae pe.length ce] #[.string ⟨pn.toArray⟩, .slice ai pi.length ci, .slice ao po.length co, .slice al pl.length cl, .slice ae pe.length ce]) := ⟨h2.alloc (by omega) _, ⟨hgr, hs0, by simp⟩, row_alloc h0 _, row_alloc h1 _, heap_alloc_new _ _⟩
  generalize w.heap.size + 1 = rb at *
  clear hW0 h0 h1 h2 h3
  go_upto_region 2 with (first | (refine wpList_load_row rfl 26 (.tmp 1) rfl w.heap.size rfl 26 #[.string ⟨pn.toArray⟩, .slice ai pi.length ci, .slice ao po.length co, .slice al pl.length cl, .slice ae pe.length ce] (0, 0) _ HE0.out Try.underlying26 rfl infoPg ?_))
  generalize W0.alloc (.cells #[.string ⟨pn.toArray⟩, .slice ai pi.length ci, .slice ao po.length co, .slice al pl.length cl, .slice ae pe.length ce] 26) = W1 at *
  generalize hob : W0.heap.size = ob at *
  clear HE0 hob
  obtain ⟨⟨n1, n2, n3, n4⟩, -⟩ := row5 (HS1.out.alloc #[] 73).erow
  go_wp2_with (first | refine wpList_buildSlice0 rfl 23 73 rfl i0 Try.underlying23 hi ?_ | at_builtin; refine wpList_copied rfl (.tmp 7) (.tmp 9) 23 rfl (ob + 1) 73 i0 _ 4 48 Try.underlying23 hi hz0 hz1 hz2 rfl (by decide) W1.heap.size rfl (heap_alloc_new _ _) HS1.out.lo.2.2 ai pi.length ci (varsCells pi) rfl (vars_len _) HNI.out (VarsAt.src (HAI.out.below (HS1.out.alloc #[] 73).below)) (vars_one _) ?c3 ?c4 ?_)
  case c3 => unfold maxLen; omega
  case c4 => omega
  intro A0 c0 U0 hown hgrow
  have hbg := ln_below hgrow
  have hs2 := HS1.out.by hbg
  obtain ⟨⟨m1, m2, m3, m4⟩, g1, g2, g3, g4⟩ := row5 hs2.xrow
  have HO0 := Lib.hid (own_store hown 1 (.slice A0 pi.length c0))
  have HS2 : Hid (Ls w (U0.setCell ⟨ob, 1, none⟩ (.slice A0 pi.length c0)) rb ob #[.string ⟨pn.toArray⟩, .slice ai pi.length ci, .slice ao po.length co, .slice al pl.length cl, .slice ae pe.length ce] #[.string ⟨pn.toArray⟩, .slice A0 pi.length c0, .slice ao po.length co, .slice al pl.length cl, .slice ae pe.length ce]) := hs2.store 1 _
  clear hown hgrow hbg hs2 n1 n2 n3 n4 HS1
  go_upto_region 3 with (fail)
  generalize U0.setCell ⟨ob, 1, none⟩ (.slice A0 pi.length c0) = W2 at *
  clear g1 g2 g3 g4 m1 m2 m3 m4
  obtain ⟨⟨n1, n2, n3, n4⟩, -⟩ := row5 (HS2.out.alloc #[] 73).erow
  go_wp2_with (first | refine wpList_buildSlice0 rfl 23 73 rfl i0 Try.underlying23 hi ?_ | at_builtin; refine wpList_copied rfl (.tmp 12) (.tmp 14) 23 rfl (ob + 1) 73 i0 _ 4 48 Try.underlying23 hi hz0 hz1 hz2 rfl (by decide) W2.heap.size rfl (heap_alloc_new _ _) HS2.out.lo.2.2 ao po.length co (varsCells po) rfl (vars_len _) HNO.out (VarsAt.src (HAO.out.below (HS2.out.alloc #[] 73).below)) (vars_one _) ?c3 ?c4 ?_)
  case c3 => unfold maxLen; omega
  case c4 => omega
  intro A1 c1 U1 hown hgrow
  have hbg := ln_below hgrow
  have hs2 := HS2.out.by hbg
  obtain ⟨⟨m1, m2, m3, m4⟩, g1, g2, g3, g4⟩ := row5 hs2.xrow
  have HO1 := Lib.hid (own_store hown 2 (.slice A1 po.length c1))
  have HO0_1 := Lib.hid (own_store (Mem.own_below HO0.out hbg) 2 (.slice A1 po.length c1))
  have HS3 : Hid (Ls w (U1.setCell ⟨ob, 2, none⟩ (.slice A1 po.length c1)) rb ob #[.string ⟨pn.toArray⟩, .slice ai pi.length ci, .slice ao po.length co, .slice al pl.length cl, .slice ae pe.length ce] #[.string ⟨pn.toArray⟩, .slice A0 pi.length c0, .slice A1 po.length c1, .slice al pl.length cl, .slice ae pe.length ce]) := hs2.store 2 _
  clear hown hgrow hbg hs2 n1 n2 n3 n4 HO0 HS2
  go_upto_region 4 with (fail)
  generalize U1.setCell ⟨ob, 2, none⟩ (.slice A1 po.length c1) = W3 at *
  clear g1 g2 g3 g4 m1 m2 m3 m4
  obtain ⟨⟨n1, n2, n3, n4⟩, -⟩ := row5 (HS3.out.alloc #[] 73).erow
  go_wp2_with (first | refine wpList_buildSlice0 rfl 23 73 rfl i0 Try.underlying23 hi ?_ | at_builtin; refine wpList_copied rfl (.tmp 17) (.tmp 19) 23 rfl (ob + 1) 73 i0 _ 4 48 Try.underlying23 hi hz0 hz1 hz2 rfl (by decide) W3.heap.size rfl (heap_alloc_new _ _) HS3.out.lo.2.2 al pl.length cl (varsCells pl) rfl (vars_len _) HNL.out (VarsAt.src (HAL.out.below (HS3.out.alloc #[] 73).below)) (vars_one _) ?c3 ?c4 ?_)
  case c3 => unfold maxLen; omega
  case c4 => omega
  intro A2 c2 U2 hown hgrow
  have hbg := ln_below hgrow
  have hs2 := HS3.out.by hbg
  obtain ⟨⟨m1, m2, m3, m4⟩, g1, g2, g3, g4⟩ := row5 hs2.xrow
  have HO2 := Lib.hid (own_store hown 3 (.slice A2 pl.length c2))
  have HO0_2 := Lib.hid (own_store (Mem.own_below HO0_1.out hbg) 3 (.slice A2 pl.length c2))
  have HO1_2 := Lib.hid (own_store (Mem.own_below HO1.out hbg) 3 (.slice A2 pl.length c2))
  have HS4 : Hid (Ls w (U2.setCell ⟨ob, 3, none⟩ (.slice A2 pl.length c2)) rb ob #[.string ⟨pn.toArray⟩, .slice ai pi.length ci, .slice ao po.length co, .slice al pl.length cl, .slice ae pe.length ce] #[.string ⟨pn.toArray⟩, .slice A0 pi.length c0, .slice A1 po.length c1, .slice A2 pl.length c2, .slice ae pe.length ce]) := hs2.store 3 _
  clear hown hgrow hbg hs2 n1 n2 n3 n4 HO0_1 HO1 HS3
  go_upto_region 5 with (fail)
  generalize U2.setCell ⟨ob, 3, none⟩ (.slice A2 pl.length c2) = W4 at *
  clear g1 g2 g3 g4 m1 m2 m3 m4
  obtain ⟨⟨m1, m2, m3, m4⟩, g1, g2, g3, g4⟩ := row5 HS4.out.xrow
  have HS5 : Hid (Ls w (W4.setCell ⟨ob, 4, none⟩ (.slice none 0 0)) rb ob #[.string ⟨pn.toArray⟩, .slice ai pi.length ci, .slice ao po.length co, .slice al pl.length cl, .slice ae pe.length ce] #[.string ⟨pn.toArray⟩, .slice A0 pi.length c0, .slice A1 po.length c1, .slice A2 pl.length c2, .slice none 0 0]) := HS4.out.store 4 _
  have HL0 := Lib.hid (own_store HO0_2.out 4 (.slice none 0 0))
  have HL1 := Lib.hid (own_store HO1_2.out 4 (.slice none 0 0))
  have HL2 := Lib.hid (own_store HO2.out 4 (.slice none 0 0))
  go_upto_region 6 with (fail)
  generalize W4.setCell ⟨ob, 4, none⟩ (.slice none 0 0) = W5 at *
  clear g1 g2 g3 g4 m1 m2 m3 m4 HO0_2 HO1_2 HO2 HS4 HAI HAO HAL HNI HNO HNL hi hz0 hz1 hz2
  have HQ : Hid (∃ lim, LnS w W5 rb ob lim #[.string ⟨pn.toArray⟩, .slice ai pi.length ci, .slice ao po.length co, .slice al pl.length cl, .slice ae pe.length ce] ⟨pn, pi, po, pl, pe.take 0⟩ ⟨A0, c0, A1, c1, A2, c2, none, 0⟩ []) :=
    ⟨W5.heap.size, HS5.out, ⟨HS5.out.lo.2.2, Nat.le_refl _⟩, HL0.out, HL1.out, HL2.out, ⟨fun k hk => (HL0.out.lt k hk).2, fun k hk => (HL1.out.lt k hk).2, fun k hk => (HL2.out.lt k hk).2⟩, World.ownsRow_nil _ _ _ _, rfl⟩
  obtain ⟨lim, hln⟩ := HQ.out
  have HLN := Lib.hid hln
  clear hln HQ HL0 HL1 HL2 HS5
  go_wp2_with fail
  go_loopw [4] (fun i wr => ∃ (j : Nat) (ae' : Option Addr) (ce' : Nat) (xs : List Value), j ≤ pe.length ∧ i = .int .i64 j ∧ Hid (LnS w wr rb ob lim #[.string ⟨pn.toArray⟩, .slice ai pi.length ci, .slice ao po.length co, .slice al pl.length cl, .slice ae pe.length ce] ⟨pn, pi, po, pl, pe.take j⟩ ⟨A0, c0, A1, c1, A2, c2, ae', ce'⟩ xs)) (fun i _ => pe.length - (intOf i).toNat)
  case atStart => exact ⟨0, none, 0, [], Nat.zero_le _, rfl, HLN⟩
  case round =>
    clear HLN
    obtain ⟨j, ae', ce', xs, hj, rfl, HS⟩ := hrel
    obtain ⟨⟨n1, n2, n3, n4⟩, -⟩ := row5 HS.out.ls.erow
    clear n1 n2 n3
    have htl : (pe.take j).length = j := by rw [List.length_take]; omega
    by_cases hlt : j < pe.length
    · obtain ⟨b, off, AF, cF, AE, cE, e1, hbl, hx1, hx2, d0, d1, d2, d3, d4, d5, d6, d7, d8, d9⟩ := HAE.out.in_ HS.out.ls.below j hlt
      have hf1 := HFE.out _ (List.getElem_mem hlt)
      have hs1 := HSZ.out _ (List.getElem_mem hlt)
      have HTK := Lib.hid (List.take_succ_eq_append_getElem hlt)
      have HX1 := Lib.hid hx1
      have HX2 := Lib.hid hx2
      generalize pe[j]'hlt = q at *
      have HC1 := Lib.hid (fun A c W h => copy_any K (size q.first) q.first (Nat.le_refl _) (by omega) A c W h hf1.2.1)
      have HC2 := Lib.hid (fun A c W h => copy_any K (size q.e) q.e (Nat.le_refl _) (by omega) A c W h hf1.2.2)
      unfold exAgg at HC1 HC2
      clear hx1 hx2 hf1 hs1
      subst e1
      go_upto_region 10 with (fail)
      obtain ⟨W9, hW9⟩ : ∃ W9, W9 = wr.alloc (.cells #[.string ⟨q.name.toArray⟩, .int .i64 q.delay, .int .i64 q.first.kind, .int .i32 q.first.n, .string ⟨q.first.name.toArray⟩, .slice AF q.first.sub.length cF, .int .i64 q.e.kind, .int .i32 q.e.n, .string ⟨q.e.name.toArray⟩, .slice AE q.e.sub.length cE] 56) := ⟨_, rfl⟩
      rw [← hW9]
      obtain ⟨hq9, hb9, hs9⟩ := row_new hW9
      have HQ9 := Lib.hid hq9
      have HB9 := Lib.hid hb9
      have HX19 := Lib.hid (HX1.out.below hb9 (Nat.le_refl _))
      have HX29 := Lib.hid (HX2.out.below hb9 (Nat.le_refl _))
      clear hW9 hq9 hb9 d0 d1 d2 d3 d4 d5 d6 d7 d8 d9 HX1 n4
      obtain ⟨⟨m1, m2, m3, m4, m5, m6, m7, m8, m9⟩, -⟩ := row10 HQ9.out
      go_wp2_with fail
      refine (HC1.out _ _ _ HX19.out).mono ?_
      rintro e w10 ⟨AF', cF', rfl, hat1, hb10⟩
      have HQ10 := Lib.hid ((hb10.block _ hs9).trans HQ9.out)
      have HB10 := Lib.hid (HB9.out.trans (hb10.mono HB9.out.size))
      have HX210 := Lib.hid (HX29.out.below hb10 (Nat.le_refl _))
      have HA1 := Lib.hid hat1
      have hs10 : wr.heap.size < w10.heap.size := Nat.lt_of_lt_of_le hs9 hb10.size
      clear hat1 hb10 m1 m2 m3 m4 m5 m6 m7 m8 m9 HQ9 HB9 HX19 HX29
      obtain ⟨⟨m1, m2, m3, m4, m5, m6, m7, m8, m9⟩, g1, g2, g3, g4, g5, g6, g7, g8, g9⟩ := row10 HQ10.out
      go_upto_region 11 with (fail)
      obtain ⟨W11, hW11⟩ : ∃ W, W = (((w10.setCell ⟨wr.heap.size, 2, none⟩ (.int .i64 q.first.kind)).setCell ⟨wr.heap.size, 3, none⟩ (.int .i32 q.first.n)).setCell ⟨wr.heap.size, 4, none⟩ (.string ⟨q.first.name.toArray⟩)).setCell ⟨wr.heap.size, 5, none⟩ (.slice AF' q.first.sub.length cF') := ⟨_, rfl⟩
      rw [← hW11]
      have HQ11 : Hid (W11.heap[wr.heap.size]? = some (.cells #[.string ⟨q.name.toArray⟩, .int .i64 q.delay, .int .i64 q.first.kind, .int .i32 q.first.n, .string ⟨q.first.name.toArray⟩, .slice AF' q.first.sub.length cF', .int .i64 q.e.kind, .int .i32 q.e.n, .string ⟨q.e.name.toArray⟩, .slice AE q.e.sub.length cE] 56 (0, 0))) := by rw [hW11]; exact setF_row10 HQ10.out _ _ _ _
      have HB11 : Hid (Below wr.heap.size wr W11) := by rw [hW11]; exact (((HB10.out.setCell (Nat.le_refl _) _).setCell (Nat.le_refl _) _).setCell (Nat.le_refl _) _).setCell (Nat.le_refl _) _
      have HA11 : Hid (At W11 (fun b => W9.heap.size ≤ b) q.first AF') := by rw [hW11]; exact HA1.out.grown (grown_set4' _ _ _ _) (by omega)
      have HX211 : Hid (At W11 K q.e AE) := HX2.out.below HB11.out (Nat.le_refl _)
      have hs11 : wr.heap.size < W11.heap.size := by rw [hW11]; simpa using hs10
      clear hW11 HQ10 HB10 HA1 HX210 m1 m2 m3 m4 m5 m6 m7 m8 m9 g1 g2 g3 g4 g5 g6 g7 g8 g9
      obtain ⟨⟨m1, m2, m3, m4, m5, m6, m7, m8, m9⟩, -⟩ := row10 HQ11.out
      go_wp2_with fail
      refine (HC2.out _ _ _ HX211.out).mono ?_
      rintro e w12 ⟨AE', cE', rfl, hat2, hb12⟩
      have HQ12 := Lib.hid ((hb12.block _ hs11).trans HQ11.out)
      have HB12 := Lib.hid (HB11.out.trans (hb12.mono HB11.out.size))
      have HA12 := Lib.hid (HA11.out.below hb12 (Nat.le_refl _))
      have HE12 := Lib.hid hat2
      have hs12 : wr.heap.size < w12.heap.size := Nat.lt_of_lt_of_le hs11 hb12.size
      clear hat2 hb12 m1 m2 m3 m4 m5 m6 m7 m8 m9 HQ11 HB11 HA11 HX211
      obtain ⟨⟨m1, m2, m3, m4, m5, m6, m7, m8, m9⟩, g1, g2, g3, g4, g5, g6, g7, g8, g9⟩ := row10 HQ12.out
      go_upto_region 12 with (fail)
      obtain ⟨W13, hW13⟩ : ∃ W, W = (((w12.setCell ⟨wr.heap.size, 6, none⟩ (.int .i64 q.e.kind)).setCell ⟨wr.heap.size, 7, none⟩ (.int .i32 q.e.n)).setCell ⟨wr.heap.size, 8, none⟩ (.string ⟨q.e.name.toArray⟩)).setCell ⟨wr.heap.size, 9, none⟩ (.slice AE' q.e.sub.length cE') := ⟨_, rfl⟩
      rw [← hW13]
      have HQ13 : Hid (W13.heap[wr.heap.size]? = some (.cells #[.string ⟨q.name.toArray⟩, .int .i64 q.delay, .int .i64 q.first.kind, .int .i32 q.first.n, .string ⟨q.first.name.toArray⟩, .slice AF' q.first.sub.length cF', .int .i64 q.e.kind, .int .i32 q.e.n, .string ⟨q.e.name.toArray⟩, .slice AE' q.e.sub.length cE'] 56 (0, 0))) := by rw [hW13]; exact setE_row10 HQ12.out _ _ _ _
      have HB13 : Hid (Below wr.heap.size wr W13) := by rw [hW13]; exact (((HB12.out.setCell (Nat.le_refl _) _).setCell (Nat.le_refl _) _).setCell (Nat.le_refl _) _).setCell (Nat.le_refl _) _
      have hA13 : At W13 (fun b => W9.heap.size ≤ b) q.first AF' := by rw [hW13]; exact HA12.out.grown (grown_set4' _ _ _ _) (by omega)
      have hE13 : At W13 (fun b => W11.heap.size ≤ b) q.e AE' := by rw [hW13]; exact HE12.out.grown (grown_set4' _ _ _ _) (by omega)
      have hs13 : wr.heap.size < W13.heap.size := by rw [hW13]; simpa using hs12
      have hloS := HS.out.ls.lo
      have oK : ∀ b, wr.heap.size ≤ b → ownK ob (eqSl ⟨A0, c0, A1, c1, A2, c2, ae', ce'⟩ ⟨pn, pi, po, pl, pe.take j⟩) b := fun b hb => ⟨by omega, fun k hk => by have := (HS.out.eqs.lt k hk).2; omega⟩
      have HA13 := Lib.hid (hA13.base (B' := ownK ob (eqSl ⟨A0, c0, A1, c1, A2, c2, ae', ce'⟩ ⟨pn, pi, po, pl, pe.take j⟩)) (fun b hb _ => oK b (by omega)))
      have HE13 := Lib.hid (hE13.base (B' := ownK ob (eqSl ⟨A0, c0, A1, c1, A2, c2, ae', ce'⟩ ⟨pn, pi, po, pl, pe.take j⟩)) (fun b hb _ => oK b (by omega)))
      have HS13 := Lib.hid (HS.out.by HB13.out)
      have hob13 : ob < wr.heap.size := hloS.2.2
      clear hW13 hA13 hE13 oK HQ12 HB12 HA12 HE12 HB13 HS hloS m1 m2 m3 m4 m5 m6 m7 m8 m9 g1 g2 g3 g4 g5 g6 g7 g8 g9
      have hp13 := HS13.out.ls.xrow
      unfold pgRow at hp13
      dsimp only at hp13
      obtain ⟨⟨n1, n2, n3, n4⟩, -⟩ := row5 hp13
      have hro := HS13.out.eqs
      unfold eqSl at hro
      dsimp only at hro
      have HRO := Lib.hid hro
      have hbd := HS13.out.bnd
      clear hp13 hro
      rw [htl] at n4
      rw [htl] at HRO
      go_wp2_with (first | (refine wpList_load_row rfl 56 (.tmp 5) rfl wr.heap.size rfl 56 #[.string ⟨q.name.toArray⟩, .int .i64 q.delay, .int .i64 q.first.kind, .int .i32 q.first.n, .string ⟨q.first.name.toArray⟩, .slice AF' q.first.sub.length cF', .int .i64 q.e.kind, .int .i32 q.e.n, .string ⟨q.e.name.toArray⟩, .slice AE' q.e.sub.length cE'] (0, 0) _ HQ13.out Try.underlying56 rfl infoEq ?_) | (at_builtin; refine wpList_append_own_at _ rfl _ _ 24 rfl lim 56 j0 _ 10 136 Try.underlying24 ji jz0 jz1 jz2 rfl (by decide) _ _ _ rfl (HRO.out.alloc _) ⟨W13.heap.size, 0, none⟩ 1 1 (eqCells q AF' cF' AE' cE') rfl rfl ?c1 ?c2 ?c3 ?c4 ?c5 ?_))
      case c1 => exact Go.Proofs.Ytilkilffkjhhbaa.cells_new _ _ _ _ rfl
      case c2 => exact eqCells_one _ _ _ _ _
      case c3 => unfold maxLen; omega
      case c4 => omega
      case c5 => simp; omega
      intro v' w14 hown hgrow _ hv'
      obtain ⟨A', c', rfl⟩ := own_slice hown
      have hba : Below W13.heap.size W13 (W13.alloc (.cells #[.string ⟨q.name.toArray⟩, .int .i64 q.delay, .int .i64 q.first.kind, .int .i32 q.first.n, .string ⟨q.first.name.toArray⟩, .slice AF' q.first.sub.length cF', .int .i64 q.e.kind, .int .i32 q.e.n, .string ⟨q.e.name.toArray⟩, .slice AE' q.e.sub.length cE'] 56)) := (Below.refl _ _).alloc (Nat.le_refl _) _
      have hs13a := HS13.out.by hba
      have hp14 : w14.heap[ob]? = some (.cells (pgRow ⟨pn, pi, po, pl, pe.take j⟩ ⟨A0, c0, A1, c1, A2, c2, ae', ce'⟩) 26 (0, 0)) := (hgrow.block _ hs13a.ls.lo.2.2 (fun e => by have := (HRO.out.lt ob e.symm).1; omega)).trans hs13a.ls.xrow
      have hap := LnS.app (A' := A') (c' := c') (cF := cF') (cE := cE') hs13a (HA13.out.below hba (Nat.le_refl _)) (HE13.out.below hba (Nat.le_refl _)) (by rw [htl]; exact hown) (by unfold eqSl; dsimp only; rw [htl]; exact hgrow) (by unfold eqSl; dsimp only; rw [htl]; rcases hv' with e | e <;> first | exact .inl e | exact .inr (by rw [e]; simp))
      dsimp only at hap
      rw [← HTK.out, htl] at hap
      have HAP := Lib.hid hap
      unfold pgRow at hp14
      dsimp only at hp14
      obtain ⟨⟨n1, n2, n3, n4⟩, n5, n6, n7, n8⟩ := row5 hp14
      clear hown hgrow hv' hba hs13a hp14 hap HTK HS13 HRO HA13 HE13 HQ13
      go_wp2_with fail
      go_roundw
      case rel => exact ⟨j + 1, A', c', _, by omega, by go_num, HAP⟩
      case measure => simp [intOf]; omega
    · obtain rfl : j = pe.length := by omega
      have hsf := HS.out
      rw [List.take_length] at hsf
      have HSF := Lib.hid hsf
      have hp := hsf.ls.xrow
      unfold pgRow at hp
      dsimp only at hp
      have HP := Lib.hid hp
      clear htl hsf hp HS
      go_wp2_with (first | (refine wpList_load_row rfl 26 (.tmp 3) rfl ob rfl 26 #[.string ⟨pn.toArray⟩, .slice A0 pi.length c0, .slice A1 po.length c1, .slice A2 pl.length c2, .slice ae' pe.length ce'] (0, 0) _ HP.out Try.underlying26 rfl infoPg ?_) | (refine wpList_store_row rfl 26 (.tmp 2) (.tmp 49) rfl rb #[.string ⟨pn.toArray⟩, .slice A0 pi.length c0, .slice A1 po.length c1, .slice A2 pl.length c2, .slice ae' pe.length ce'] rfl rfl 26 zpg HSF.out.ls.rrow infoPg rfl (pgRow_one ⟨pn, pi, po, pl, pe⟩ ⟨A0, c0, A1, c1, A2, c2, ae', ce'⟩) ?_))
      exact ret_row 2 rfl rfl rfl (setRow_heap _ _ zpg _ _ _ HSF.out.ls.rrow) Try.underlying26 infoPg ⟨⟨A0, c0, A1, c1, A2, c2, ae', ce'⟩, rfl, HSF.out.fin _⟩
end Go.Proofs.Ytilkilffkjhhbaa
