/-
  The rules of expressions together; where the next token stands; the function Expr.
  The function Expr.
  Declarations: decl and own.
  Lists of declarations.
-/
import Derived.Test.YtilkilffkjhhbaaTrP5
import Derived.Test.YtilkilffkjhhbaaTrP6
import Derived.Test.YtilkilffkjhhbaaTrP7
import Derived.Test.YtilkilffkjhhbaaTrP8
import Derived.Test.YtilkilffkjhhbaaTrPl
namespace Go.Proofs.Ytilkilffkjhhbaa
set_option maxRecDepth 20000
set_option linter.unusedVariables false
open Go.RowKit Tr Mem

def isGo : Tr.Call → Prop
  | .loop _ _ => False
  | .floop _ => False
  | _ => True
theorem said_all (bp : Nat) (A : Option Addr) (c : Nat) (ts : List Lx.Tok) : ∀ (m : Nat) (k : Tr.Call) (s : St), isGo k → k.ok → fuel ts k s ≤ m → Said bp A c ts k s := by
  intro m
  induction m with
  | zero => intro k s _ _ h; unfold fuel at h; omega
  | succ m ih =>
    intro k s hg ok hm
    cases k with
    | expr =>
      refine expr_of bp A c ts s ?_
      intro k s' hk hlt
      rcases hk with rfl | rfl
      · exact ih _ _ trivial (Nat.zero_le _) (by omega)
      · exact ih _ _ trivial trivial (by omega)
    | level n =>
      have hn : n ≤ 6 := ok
      by_cases h6 : n = 6
      · subst h6
        refine level6_of bp A c ts s ?_
        intro k s' hk hlt
        subst hk
        exact ih _ _ trivial trivial (by omega)
      · refine level_of bp A c ts n (by omega) s ?_
        intro s' hlt
        exact ih _ _ trivial (show n + 1 ≤ 6 by omega) (by omega)
    | loop n x => exact hg.elim
    | unary =>
      refine unary_of bp A c ts s ?_
      intro k s' hk hlt
      rcases hk with rfl | rfl
      · exact ih _ _ trivial trivial (by omega)
      · exact ih _ _ trivial trivial (by omega)
    | factor =>
      refine factor_of bp A c ts s ?_
      intro k s' hk hlt
      subst hk
      exact ih _ _ trivial trivial (by omega)
    | floop x => exact hg.elim
    | atom =>
      refine atom_of bp A c ts s ?_
      intro k s' hk hlt
      rcases hk with rfl | rfl
      · exact ih _ _ trivial trivial (by omega)
      · exact ih _ _ trivial trivial (by omega)
theorem pexpr (bp : Nat) (A : Option Addr) (c : Nat) (ts : List Lx.Tok) (s : St) (w : World) (h : RowAt w bp 61 A c ts s) : Calls Try.prog 61 #[.pointer (some ⟨bp, 0, none⟩)] w (Gives w bp A c ts (P ts .expr s)) := said_all bp A c ts _ .expr s trivial trivial (Nat.le_refl _) w h
set_option maxHeartbeats 4000000 in
theorem where_any (bp : Nat) (A : Option Addr) (c : Nat) (ts : List Lx.Tok) (s : St) (N : Int) (w : World) (h : RowAt w bp 61 A c ts s) :
    Calls Try.prog 33 #[.pointer (some ⟨bp, 0, none⟩), .int .i64 N] w fun e w' => e = .returned (.int .i64 (plc ts s N)) ∧ Below w.heap.size w w' := by
  have hlen := h.len
  have hle := h.le
  obtain ⟨c0, c1, c2, _, _⟩ := h.cells
  unfold plc
  by_cases hlt : s.at_ < ts.length
  · rw [if_pos hlt]
    obtain ⟨b, off, rfl, t0, t1, t2, t3⟩ := h.toks s.at_ hlt
    have hg : ts.getD s.at_ ⟨0, [], 0, 0⟩ = ts[s.at_]'hlt := by simp [hlt]
    rw [hg]
    have r0 : (0 : Int) ≤ (s.at_ : Int) := by omega
    have r1 : (s.at_ : Int) < (ts.length : Int) := by omega
    generalize ts[s.at_]'hlt = t at *
    clear hg h hlt
    go_enter Try.func33, Try.ntmps33
    go_wp2_with fail
    go_quiet (fail)
    go_wp2_with fail
    go_quiet (fail)
    go_wp2_with fail
    go_ret
    exact ⟨rfl, below_drewN (below_drewN (Below.refl _ _) _) _⟩
  · rw [if_neg hlt]
    have r1 : ¬ (s.at_ : Int) < (ts.length : Int) := by omega
    clear h hlt
    go_enter Try.func33, Try.ntmps33
    go_wp2_with fail
    go_quiet (fail)
    go_wp2_with fail
    go_ret
    exact ⟨rfl, below_drewN (Below.refl _ _) _⟩
end Go.Proofs.Ytilkilffkjhhbaa
namespace Go.Proofs.Ytilkilffkjhhbaa
set_option maxRecDepth 20000
set_option linter.unusedVariables false
open Go.RowKit Tr Mem

theorem results_row_tmp2 {P : Program} {fn : Func} {p u v : Tmp} {ty : TypeId} (h : fn.results = #[.cell p ty, .tmp u, .tmp v]) (tmps : Array Value) (w : World) (g : Nat) (t : TypeId) (cs : Array Value) (fr : Nat × Nat) (d : TypeDesc) (x y : Value)
    (hp : tmps.getD p undef = .pointer (some ⟨g, 0, none⟩)) (hg : w.heap[g]? = some (.cells cs t fr))
    (hu : P.underlying ty = some d) (hd : (match d with | .struct _ | .array _ _ => true | _ => false) = true) (hi : (P.info? ty).map (·.size) = some cs.size) (hx : tmps.getD u undef = x) (hy : tmps.getD v undef = y) :
    (results fn tmps).run P w = .ok (.tuple #[.agg cs, x, y]) w := by
  simp only [results, h]
  simp [-Array.getD_eq_getD_getElem?, Result.andThen, hp, hx, hy, asAddr, run_loadVar_row w g t ty cs fr d hg hu hd hi]
theorem results_row_tmp3 {P : Program} {fn : Func} {p u v s : Tmp} {ty : TypeId} (h : fn.results = #[.cell p ty, .tmp u, .tmp v, .tmp s]) (tmps : Array Value) (w : World) (g : Nat) (t : TypeId) (cs : Array Value) (fr : Nat × Nat) (d : TypeDesc) (x y z : Value)
    (hp : tmps.getD p undef = .pointer (some ⟨g, 0, none⟩)) (hg : w.heap[g]? = some (.cells cs t fr))
    (hu : P.underlying ty = some d) (hd : (match d with | .struct _ | .array _ _ => true | _ => false) = true) (hi : (P.info? ty).map (·.size) = some cs.size) (hx : tmps.getD u undef = x) (hy : tmps.getD v undef = y) (hz : tmps.getD s undef = z) :
    (results fn tmps).run P w = .ok (.tuple #[.agg cs, x, y, z]) w := by
  simp only [results, h]
  simp [-Array.getD_eq_getD_getElem?, Result.andThen, hp, hx, hy, hz, asAddr, run_loadVar_row w g t ty cs fr d hg hu hd hi]
theorem ret_row_tmp2 {fn : Func} {R : Ending → World → Prop} {a : Act} {W : World} {g : Nat} {cs : Array Value} {v x : Value} {ty t : TypeId} {fs : Array Field} (p u s : Nat) (hr : fn.results = #[.cell p ty, .tmp u, .tmp s])
    (h2 : a.tmps.getD p undef = .pointer (some ⟨g, 0, none⟩)) (h3 : a.tmps.getD u undef = v) (h4 : a.tmps.getD s undef = x) (hd : a.defers = []) (hg : W.heap[g]? = some (.cells cs t (0, 0)))
    (hu : Try.prog.underlying ty = some (.struct fs)) (hi : (Try.prog.info? ty).map (·.size) = some cs.size)
    (hR : R (.returned (.tuple #[.agg cs, v, x])) W) : bodyPost Try.prog fn R .ret a W :=
  bodyPost_ret (results_row_tmp2 (P := Try.prog) hr _ _ g _ cs _ _ _ _ h2 hg hu rfl hi h3 h4) hd hR
theorem ret_row_tmp3 {fn : Func} {R : Ending → World → Prop} {a : Act} {W : World} {g : Nat} {cs : Array Value} {v x y : Value} {ty t : TypeId} {fs : Array Field} (p u s r : Nat) (hr : fn.results = #[.cell p ty, .tmp u, .tmp s, .tmp r])
    (h2 : a.tmps.getD p undef = .pointer (some ⟨g, 0, none⟩)) (h3 : a.tmps.getD u undef = v) (h4 : a.tmps.getD s undef = x) (h5 : a.tmps.getD r undef = y) (hd : a.defers = []) (hg : W.heap[g]? = some (.cells cs t (0, 0)))
    (hu : Try.prog.underlying ty = some (.struct fs)) (hi : (Try.prog.info? ty).map (·.size) = some cs.size)
    (hR : R (.returned (.tuple #[.agg cs, v, x, y])) W) : bodyPost Try.prog fn R .ret a W :=
  bodyPost_ret (results_row_tmp3 (P := Try.prog) hr _ _ g _ cs _ _ _ _ _ h2 hg hu rfl hi h3 h4 h5) hd hR
/-- the expression that stands among tokens: it, where it ends, the fault and its place -/
def exprT (ts : List Lx.Tok) (at_ N : Int) : Ex × Int × Int × Int :=
  if at_ < 0 ∨ (ts.length : Int) < at_ then (Ex.zero, 0, 1, 0)
  else if (P ts .expr ⟨at_.toNat, false⟩).2.bad then (Ex.zero, 0, 16, plc ts (P ts .expr ⟨at_.toNat, false⟩).2 N)
  else ((P ts .expr ⟨at_.toNat, false⟩).1, ((P ts .expr ⟨at_.toNat, false⟩).2.at_ : Int), 0, 0)
/-- what Expr hands back -/
def ExprPost (w : World) (r : Ex × Int × Int × Int) (e : Ending) (w' : World) : Prop :=
  ∃ A' c', e = .returned (.tuple #[exAgg r.1 A' c', .int .i64 r.2.1, .int .i64 r.2.2.1, .int .i64 r.2.2.2]) ∧ At w' (fun b => w.heap.size ≤ b) r.1 A' ∧ Below w.heap.size w w'
theorem Took.own {w W : World} {bp B : Nat} {ty : TypeId} {A : Option Addr} {c : Nat} {ts : List Lx.Tok} {s : St} (h : Took w bp ty A c ts s W) (h1 : B ≤ bp) (h2 : B ≤ w.heap.size) : Below B w W := below_of_grown h.2 h2 (fun g e => by injection e with e; omega)
theorem at_zero (w : World) (K : Nat → Prop) (A : Option Addr) : At w K Ex.zero A := by unfold Ex.zero; rw [at_eq]; exact atL_nil _ _ _
theorem row3c {W : World} {g : Nat} {a b c : Value} {t : TypeId} (h : W.heap[g]? = some (.cells #[a, b, c] t (0, 0))) : W.cell? ⟨g, 0, none⟩ = some a ∧ W.cell? ⟨g, 1, none⟩ = some b ∧ W.cell? ⟨g, 2, none⟩ = some c :=
  ⟨cell_of_row W g 0 _ _ _ h, cell_of_row W g 1 _ _ _ h, cell_of_row W g 2 _ _ _ h⟩
set_option maxHeartbeats 4000000 in
theorem texpr (A : Option Addr) (c : Nat) (ts : List Lx.Tok) (at_ N : Int) (w : World) (hT : TokAt w A ts) (hlen : ts.length ≤ 4096) (hA : ∀ b o p, A = some ⟨b, o, p⟩ → b < w.heap.size) :
    Calls Try.prog 26 #[.slice A ts.length c, .int .i64 at_, .int .i64 N] w (ExprPost w (exprT ts at_ N)) := by
  have HW0 : Hid (∀ V, Below w.heap.size w (w.alloc V)) := fun V => (Below.refl _ _).alloc (Nat.le_refl _) V
  have HT := Lib.hid hT
  have HA := Lib.hid hA
  clear hT hA
  obtain ⟨r, hr⟩ : ∃ r, r = exprT ts at_ N := ⟨_, rfl⟩
  rw [← hr]
  unfold exprT at hr
  by_cases hbad : at_ < 0 ∨ (ts.length : Int) < at_
  · rw [if_pos hbad] at hr
    subst hr
    by_cases hn : at_ < 0
    · clear hbad HT HA
      go_enter Try.func26, Try.ntmps26
      go_wp2_with fail
      exact ret_row_tmp3 6 7 8 9 rfl rfl rfl rfl rfl rfl (heap_alloc_new w (.cells zrow 43)) Try.underlying43 infoExS ⟨none, 0, rfl, at_zero _ _ _, HW0.out _⟩
    · have hgt : (ts.length : Int) < at_ := by omega
      clear hbad HT HA
      go_enter Try.func26, Try.ntmps26
      go_wp2_with fail
      exact ret_row_tmp3 6 7 8 9 rfl rfl rfl rfl rfl rfl (heap_alloc_new w (.cells zrow 43)) Try.underlying43 infoExS ⟨none, 0, rfl, at_zero _ _ _, HW0.out _⟩
  · rw [if_neg hbad] at hr
    obtain ⟨n, rfl⟩ : ∃ n : Nat, at_ = n := ⟨at_.toNat, by omega⟩
    have hn0 : ¬ (n : Int) < 0 := by omega
    have hn1 : ¬ (ts.length : Int) < n := by omega
    clear hbad
    rw [Int.toNat_natCast] at hr
    have HE := Lib.hid (fun bp W h => pexpr bp A c ts ⟨n, false⟩ W h)
    generalize P ts .expr ⟨n, false⟩ = q at *
    obtain ⟨x, s⟩ := q
    dsimp only at hr
    have HRR := Lib.hid hr
    clear hr
    go_enter Try.func26, Try.ntmps26
    go_wp2_with fail
    obtain ⟨W1, hW1⟩ : ∃ W1, W1 = (w.alloc (.cells zrow 43)).alloc (.cells #[.slice A ts.length c, .int .i64 n, .bool false] 61) := ⟨_, rfl⟩
    unfold zrow at hW1
    rw [← hW1]
    have hbe : Below w.heap.size w W1 := by rw [hW1]; exact (HW0.out _).trans ((Below.refl _ _).alloc (by simp) _)
    have HB1 := Lib.hid hbe
    have HZ1 : Hid (W1.heap[w.heap.size]? = some (.cells zrow 43 (0, 0))) := by rw [hW1]; exact row_alloc (heap_alloc_new _ _) _
    have hp1 : W1.heap[w.heap.size + 1]? = some (.cells #[.slice A ts.length c, .int .i64 n, .bool false] 61 (0, 0)) := by
      have h := heap_alloc_new (w.alloc (.cells zrow 43)) (.cells #[.slice A ts.length c, .int .i64 n, .bool false] 61)
      have e : (w.alloc (.cells zrow 43)).heap.size = w.heap.size + 1 := by simp
      rw [e] at h
      rw [hW1]; exact h
    have HR1 : Hid (RowAt W1 (w.heap.size + 1) 61 A c ts ⟨n, false⟩) := ⟨hp1, HT.out.below hbe (.inl (Nat.le_refl _)), fun b o p e => by have := HA.out b o p e; omega, by simp only; omega, hlen⟩
    clear hW1 hbe hp1
    refine (HE.out _ _ HR1.out).mono ?_
    rintro e w2 ⟨Ax, cx, rfl, hat, hk⟩
    have hz1 := (Array.getElem?_eq_some_iff.1 HZ1.out).1
    have hz2 := hk.2.size
    have HZ2 := Lib.hid (hk.row HZ1.out (by omega))
    have HB2 := Lib.hid (HB1.out.trans (hk.own (B := w.heap.size) (by omega) (by omega)))
    have HX2 := Lib.hid (hat.base (B' := fun b => w.heap.size < b) (fun b hb _ => Nat.lt_of_lt_of_le hz1 hb))
    have HR2 := Lib.hid hk.1
    clear hat hk HZ1 HB1 HR1 HE
    unfold exAgg
    dsimp only
    go_upto_region 5 with (fail)
    obtain ⟨W3, hW3⟩ : ∃ W3, W3 = w2.alloc (.cells #[.int .i64 x.kind, .int .i32 x.n, .string ⟨x.name.toArray⟩, .slice Ax x.sub.length cx] 43) := ⟨_, rfl⟩
    rw [← hW3]
    have hb : Below w2.heap.size w2 W3 := by rw [hW3]; exact (Below.refl _ _).alloc (Nat.le_refl _) _
    have HN3 : Hid (W3.heap[w2.heap.size]? = some (.cells #[.int .i64 x.kind, .int .i32 x.n, .string ⟨x.name.toArray⟩, .slice Ax x.sub.length cx] 43 (0, 0))) := by rw [hW3]; exact heap_alloc_new _ _
    have HZ3 := Lib.hid ((hb.block _ (Array.getElem?_eq_some_iff.1 HZ2.out).1).trans HZ2.out)
    have HB3 := Lib.hid (HB2.out.trans (hb.mono HB2.out.size))
    have HX3 := Lib.hid (HX2.out.below hb (Nat.le_refl _))
    have HR3 := Lib.hid (HR2.out.below hb (Nat.le_refl _))
    clear hW3 hb HZ2 HB2 HX2 HR2
    obtain ⟨p0, p1, p2, _, _⟩ := HR3.out.cells
    have hrr := HRR.out
    rcases hb : s.bad with _ | _
    · rw [hb, if_neg (by decide)] at hrr
      rw [hb] at p2
      clear hb
      obtain ⟨m0, m1, m2, m3, _⟩ := row4 HN3.out
      subst hrr
      go_wp2_with fail
      have hr0 : W3.heap[w.heap.size + 1]? = some (.cells #[.slice A ts.length c, .int .i64 s.at_, .bool s.bad] 61 (0, 0)) := HR3.out.row
      have hgz : w2.heap.size ≠ w.heap.size := by omega
      have hgy : w.heap.size + 1 ≠ w.heap.size := by omega
      have hgx : w.heap.size ≠ w2.heap.size := by omega
      obtain ⟨k0, k1, k2, k3, f0, f1, f2, f3⟩ := row4 HZ3.out
      go_region_held3 (fun W => (W.cell? ⟨w2.heap.size, 0, none⟩ = some (.int .i64 x.kind) ∧ W.cell? ⟨w2.heap.size, 1, none⟩ = some (.int .i32 x.n) ∧ W.cell? ⟨w2.heap.size, 2, none⟩ = some (.string ⟨x.name.toArray⟩) ∧ W.cell? ⟨w2.heap.size, 3, none⟩ = some (.slice Ax x.sub.length cx)) ∧ W.cell? ⟨w.heap.size + 1, 1, none⟩ = some (.int .i64 s.at_))
        (first | (with_reducible exact ⟨row4c (row_drew HN3.out), (row3c (row_drew hr0)).2.1⟩) | (with_reducible exact ⟨row4c (s4_keep (row_drew HN3.out) hgz _ _ _ _), (row3c (s4_keep (row_drew hr0) hgy _ _ _ _)).2.1⟩) | (with_reducible exact ⟨row4c (row_drew (s4_keep HN3.out hgz _ _ _ _)), (row3c (row_drew (s4_keep hr0 hgy _ _ _ _))).2.1⟩) | (with_reducible exact ⟨row4c (s4_keep HN3.out hgz _ _ _ _), (row3c (s4_keep hr0 hgy _ _ _ _)).2.1⟩)) (fail)
      go_wp2_with fail
      exact ret_row_tmp3 6 7 8 9 rfl rfl rfl rfl rfl rfl (row_drew (setrow4 HZ3.out _ _ _ _)) Try.underlying43 infoExS ⟨Ax, cx, rfl, ((HX3.out.grown (grown_set4 (bp := w.heap.size) (.inr trivial) _ _ _ _) (Nat.lt_irrefl _)).base (fun b hb _ => Nat.le_of_lt hb)).below (Below.refl _ _).drew (Nat.le_refl _), (below_set4 HB3.out (Nat.le_refl _) _ _ _ _).drew⟩
    · rw [hb, if_pos rfl] at hrr
      rw [hb] at p2
      clear hb
      subst hrr
      go_wp2_with fail
      refine (where_any _ _ _ _ _ _ _ HR3.out).mono ?_
      rintro e w4 ⟨rfl, hb⟩
      have HZ4 := Lib.hid ((hb.block _ (Array.getElem?_eq_some_iff.1 HZ3.out).1).trans HZ3.out)
      have HB4 := Lib.hid (HB3.out.trans (hb.mono HB3.out.size))
      clear hb HZ3 HB3 HX3 HR3
      obtain ⟨k0, k1, k2, k3, f0, f1, f2, f3⟩ := row4 HZ4.out
      go_wp2_with fail
      exact ret_row_tmp3 6 7 8 9 rfl rfl rfl rfl rfl rfl (setrow4 HZ4.out _ _ _ _) Try.underlying43 infoExS ⟨none, 0, rfl, at_zero _ _ _, below_set4 HB4.out (Nat.le_refl _) _ _ _ _⟩
end Go.Proofs.Ytilkilffkjhhbaa
namespace Go.Proofs.Ytilkilffkjhhbaa
set_option maxRecDepth 20000
set_option linter.unusedVariables false
open Go.RowKit Tr Mem

/-- a variable's own cells -/
def varAgg (v : Vr) : Value := .agg #[.string ⟨v.name.toArray⟩, .int .i64 v.type, .int .i64 v.ck, .string ⟨v.cn.toArray⟩]
def zvar : Array Value := #[.string ⟨#[]⟩, .int .i64 0, .int .i64 0, .string ⟨#[]⟩]
theorem infoVar : (Try.prog.info? 73).map (·.size) = some 4 := by kernel_rfl
theorem Took.ours {w W W' : World} {bp g : Nat} {ty : TypeId} {A : Option Addr} {c : Nat} {ts : List Lx.Tok} {s s0 : St} (h : Took w bp ty A c ts s W) (hg : W.grownBy W' (some g)) (h0 : RowAt w bp ty A c ts s0) (hlo : w.heap.size ≤ g) : Took w bp ty A c ts s W' :=
  ⟨h.1.grow hg (by have := h0.lt; omega) (fun hne b o p e => by have := h0.old hne b o p e; omega), grown_own h.2 hg hlo⟩
theorem set1_keep {W : World} {g g' o : Nat} {O : Obj} (h : W.heap[g']? = some O) (hne : g' ≠ g) (x : Value) : (W.setCell ⟨g, o, none⟩ x).heap[g']? = some O := by
  rw [heap_setCell_other _ _ _ _ hne]; exact h
theorem set1_row {W : World} {g : Nat} {a b c d : Value} {t : TypeId} (h : W.heap[g]? = some (.cells #[a, b, c, d] t (0, 0))) (x : Value) : (W.setCell ⟨g, 1, none⟩ x).heap[g]? = some (.cells #[a, x, c, d] t (0, 0)) := by
  rw [heap_setCell_same _ g 1 _ _ _ h]; rfl
theorem set2_row {W : World} {g : Nat} {a b c d : Value} {t : TypeId} (h : W.heap[g]? = some (.cells #[a, b, c, d] t (0, 0))) (x y : Value) : ((W.setCell ⟨g, 2, none⟩ x).setCell ⟨g, 3, none⟩ y).heap[g]? = some (.cells #[a, b, x, y] t (0, 0)) := by
  rw [heap_setCell_same _ g 3 _ _ _ (heap_setCell_same _ g 2 _ _ _ h)]; rfl
def DeclPost (w : World) (bp : Nat) (ty : TypeId) (A : Option Addr) (c : Nat) (ts : List Lx.Tok) (r : Vr × St) (e : Ending) (w' : World) : Prop := e = .returned (varAgg r.1) ∧ Took w bp ty A c ts r.2 w'

set_option maxHeartbeats 8000000 in
theorem decl_any (bp : Nat) (A : Option Addr) (c : Nat) (ts : List Lx.Tok) (s : St) (w : World) (h : RowAt w bp 61 A c ts s) :
    Calls Try.prog 98 #[.pointer (some ⟨bp, 0, none⟩)] w (DeclPost w bp 61 A c ts (declP ts s)) := by
  have HR := Lib.hid h
  have hbw := h.lt
  have HW0 : Hid (∀ V, Below w.heap.size w (w.alloc V)) := fun V => (Below.refl _ _).alloc (Nat.le_refl _) V
  obtain ⟨r, hr⟩ : ∃ r, r = declP ts s := ⟨_, rfl⟩
  rw [← hr]
  unfold declP at hr
  clear h
  have HC := Lib.hid (fun W h => name_any bp A c ts s W h)
  generalize Tr.name ts s = nm at *
  obtain ⟨nm, s1⟩ := nm
  dsimp only at hr HC
  have HN := Lib.hid (fun W h => need_any bp A c ts s1 [58] W h)
  generalize Tr.need ts s1 [58] = s2 at *
  have HT := Lib.hid (fun W h => take_any bp A c ts s2 wBool W h)
  have HI := Lib.hid (fun W h => need_any bp A c ts s2 wInt W h)
  rcases h1 : sees ts s2 wBool with _ | _
  · rw [h1, if_neg (by decide)] at hr
    rw [h1, if_neg (by decide)] at HT
    subst hr
    clear h1
    unfold wBool at HT
    generalize Tr.need ts s2 wInt = s3 at *
    unfold wInt at HI
    go_enter Try.func98, Try.ntmps98
    go_wp2_with fail
    obtain ⟨W0, hW0⟩ : ∃ W0, W0 = w.alloc (.cells zvar 73) := ⟨_, rfl⟩
    unfold zvar at hW0
    rw [← hW0]
    have HB0 : Hid (Below w.heap.size w W0) := by rw [hW0]; exact HW0.out _
    have HZ0 : Hid (W0.heap[w.heap.size]? = some (.cells zvar 73 (0, 0))) := by rw [hW0]; exact heap_alloc_new _ _
    have HK0 : Hid (Took w bp 61 A c ts s W0) := (took_refl HR.out).below HB0.out
    clear hW0
    refine (HC.out _ HK0.out.1).mono ?_
    rintro e w1 ⟨rfl, hk⟩
    have HY2 := Lib.hid (hk.row HZ0.out (by omega))
    have HK3 := Lib.hid (HK0.out.trans hk)
    clear HZ0 HK0
    clear hk
    go_wp2_with fail
    obtain ⟨W4, hW⟩ : ∃ W, W = w1.alloc (.cells #[.string ⟨nm.toArray⟩, .int .i64 1, .int .i64 0, .string ⟨#[]⟩] 73) := ⟨_, rfl⟩
    rw [← hW]
    have hbx : Below w1.heap.size w1 W4 := by rw [hW]; exact (Below.refl _ _).alloc (Nat.le_refl _) _
    have HN4 : Hid (W4.heap[w1.heap.size]? = some (.cells #[.string ⟨nm.toArray⟩, .int .i64 1, .int .i64 0, .string ⟨#[]⟩] 73 (0, 0))) := by rw [hW]; exact heap_alloc_new _ _
    have hlo4 : w.heap.size < w1.heap.size := (Array.getElem?_eq_some_iff.1 HY2.out).1
    clear hW
    have HY5 := Lib.hid ((hbx.block _ (Array.getElem?_eq_some_iff.1 HY2.out).1).trans HY2.out)
    have HK6 := Lib.hid (HK3.out.below hbx)
    clear HY2 HK3
    clear hbx
    refine (HN.out _ HK6.out.1).mono ?_
    rintro e w7 ⟨rfl, hk⟩
    have HY8 := Lib.hid (hk.row HY5.out (by omega))
    have HY9 := Lib.hid (hk.row HN4.out (by omega))
    have HK10 := Lib.hid (HK6.out.trans hk)
    clear HY5 HN4 HK6
    clear hk
    go_wp2_with fail
    refine (HT.out _ HK10.out.1).mono ?_
    rintro e w11 ⟨rfl, hk⟩
    have HY12 := Lib.hid (hk.row HY8.out (by omega))
    have HY13 := Lib.hid (hk.row HY9.out (by omega))
    have HK14 := Lib.hid (HK10.out.trans hk)
    clear HY8 HY9 HK10
    clear hk
    go_wp2_with fail
    refine (HI.out _ HK14.out.1).mono ?_
    rintro e w15 ⟨rfl, hk⟩
    have HY16 := Lib.hid (hk.row HY12.out (by omega))
    have HY17 := Lib.hid (hk.row HY13.out (by omega))
    have HK18 := Lib.hid (HK14.out.trans hk)
    clear HY12 HY13 HK14
    clear hk
    obtain ⟨k0, k1, k2, k3, k4, k5, k6, k7⟩ := row4 HY16.out
    obtain ⟨m0, m1, m2, m3, m4, m5, m6, m7⟩ := row4 HY17.out
    go_wp2_with fail
    exact ret_row 2 rfl rfl rfl (setrow4 HY16.out _ _ _ _) Try.underlying73 infoVar ⟨rfl, took_set4 HK18.out.1 HK18.out.2 HR.out (Nat.le_refl _) _ _ _ _⟩
  · rw [h1, if_pos rfl] at hr
    rw [h1, if_pos rfl] at HT
    subst hr
    clear h1 HI
    unfold wBool at HT
    go_enter Try.func98, Try.ntmps98
    go_wp2_with fail
    obtain ⟨W0, hW0⟩ : ∃ W0, W0 = w.alloc (.cells zvar 73) := ⟨_, rfl⟩
    unfold zvar at hW0
    rw [← hW0]
    have HB0 : Hid (Below w.heap.size w W0) := by rw [hW0]; exact HW0.out _
    have HZ0 : Hid (W0.heap[w.heap.size]? = some (.cells zvar 73 (0, 0))) := by rw [hW0]; exact heap_alloc_new _ _
    have HK0 : Hid (Took w bp 61 A c ts s W0) := (took_refl HR.out).below HB0.out
    clear hW0
    refine (HC.out _ HK0.out.1).mono ?_
    rintro e w1 ⟨rfl, hk⟩
    have HY2 := Lib.hid (hk.row HZ0.out (by omega))
    have HK3 := Lib.hid (HK0.out.trans hk)
    clear HZ0 HK0
    clear hk
    go_wp2_with fail
    obtain ⟨W4, hW⟩ : ∃ W, W = w1.alloc (.cells #[.string ⟨nm.toArray⟩, .int .i64 1, .int .i64 0, .string ⟨#[]⟩] 73) := ⟨_, rfl⟩
    rw [← hW]
    have hbx : Below w1.heap.size w1 W4 := by rw [hW]; exact (Below.refl _ _).alloc (Nat.le_refl _) _
    have HN4 : Hid (W4.heap[w1.heap.size]? = some (.cells #[.string ⟨nm.toArray⟩, .int .i64 1, .int .i64 0, .string ⟨#[]⟩] 73 (0, 0))) := by rw [hW]; exact heap_alloc_new _ _
    have hlo4 : w.heap.size < w1.heap.size := (Array.getElem?_eq_some_iff.1 HY2.out).1
    clear hW
    have HY5 := Lib.hid ((hbx.block _ (Array.getElem?_eq_some_iff.1 HY2.out).1).trans HY2.out)
    have HK6 := Lib.hid (HK3.out.below hbx)
    clear HY2 HK3
    clear hbx
    refine (HN.out _ HK6.out.1).mono ?_
    rintro e w7 ⟨rfl, hk⟩
    have HY8 := Lib.hid (hk.row HY5.out (by omega))
    have HY9 := Lib.hid (hk.row HN4.out (by omega))
    have HK10 := Lib.hid (HK6.out.trans hk)
    clear HY5 HN4 HK6
    clear hk
    go_wp2_with fail
    refine (HT.out _ HK10.out.1).mono ?_
    rintro e w11 ⟨rfl, hk⟩
    have HY12 := Lib.hid (hk.row HY8.out (by omega))
    have HY13 := Lib.hid (hk.row HY9.out (by omega))
    have HK14 := Lib.hid (HK10.out.trans hk)
    clear HY8 HY9 HK10
    clear hk
    obtain ⟨k0, k1, k2, k3, k4, k5, k6, k7⟩ := row4 HY12.out
    obtain ⟨m0, m1, m2, m3, m4, m5, m6, m7⟩ := row4 HY13.out
    go_upto_region 5 with (fail)
    obtain ⟨W5, hW5⟩ : ∃ W5, W5 = w11.setCell ⟨w1.heap.size, 1, none⟩ (.int .i64 2) := ⟨_, rfl⟩
    rw [← hW5]
    have hlo : w.heap.size < w1.heap.size := by omega
    have HZ5 : Hid (W5.heap[w.heap.size]? = some (.cells zvar 73 (0, 0))) := by rw [hW5]; exact set1_keep HY12.out (by omega) _
    have HM5 : Hid (W5.heap[w1.heap.size]? = some (.cells #[.string ⟨nm.toArray⟩, .int .i64 2, .int .i64 0, .string ⟨#[]⟩] 73 (0, 0))) := by rw [hW5]; exact set1_row HY13.out _
    have HK5 : Hid (Took w bp 61 A c ts s2.adv W5) := by rw [hW5]; exact HK14.out.ours (grown_setCell _ _ _ _) HR.out (by omega)
    clear hW5 k0 m0 k1 m1 k2 m2 k3 m3 k4 m4 k5 m5 k6 m6 k7 m7 HY12 HY13 HK14
    obtain ⟨k0, k1, k2, k3, k4, k5, k6, k7⟩ := row4 HZ5.out
    obtain ⟨m0, m1, m2, m3, m4, m5, m6, m7⟩ := row4 HM5.out
    go_wp2_with fail
    exact ret_row 2 rfl rfl rfl (setrow4 HZ5.out _ _ _ _) Try.underlying73 infoVar ⟨rfl, took_set4 HK5.out.1 HK5.out.2 HR.out (Nat.le_refl _) _ _ _ _⟩
set_option maxHeartbeats 8000000 in
theorem own_any (bp : Nat) (A : Option Addr) (c : Nat) (ts : List Lx.Tok) (s : St) (w : World) (h : RowAt w bp 61 A c ts s) :
    Calls Try.prog 66 #[.pointer (some ⟨bp, 0, none⟩)] w (DeclPost w bp 61 A c ts (ownP ts s)) := by
  have HR := Lib.hid h
  have hbw := h.lt
  have HW0 : Hid (∀ V, Below w.heap.size w (w.alloc V)) := fun V => (Below.refl _ _).alloc (Nat.le_refl _) V
  obtain ⟨r, hr⟩ : ∃ r, r = ownP ts s := ⟨_, rfl⟩
  rw [← hr]
  unfold ownP at hr
  clear h
  have HC := Lib.hid (fun W h => decl_any bp A c ts s W h)
  generalize declP ts s = d at *
  obtain ⟨⟨vn, vt, vk, vc⟩, s1⟩ := d
  dsimp only at hr HC
  have HTW := Lib.hid (fun W h => take_any bp A c ts s1 wWhen W h)
  have HTU := Lib.hid (fun W h => take_any bp A c ts s1 wUnless W h)
  rcases h1 : sees ts s1 wWhen with _ | _
  rotate_left
  · rw [h1, if_pos rfl] at hr HTW
    clear h1 HTU
    unfold wWhen at HTW
    have HCN := Lib.hid (fun W h => name_any bp A c ts s1.adv W h)
    generalize Tr.name ts s1.adv = nm at *
    obtain ⟨cn, s2⟩ := nm
    dsimp only at hr HCN
    have HN := Lib.hid (fun W h => need_any bp A c ts s2 [59] W h)
    generalize Tr.need ts s2 [59] = s3 at *
    subst hr
    go_enter Try.func66, Try.ntmps66
    go_wp2_with fail
    obtain ⟨W0, hW0⟩ : ∃ W0, W0 = w.alloc (.cells zvar 73) := ⟨_, rfl⟩
    unfold zvar at hW0
    rw [← hW0]
    have HB0 : Hid (Below w.heap.size w W0) := by rw [hW0]; exact HW0.out _
    have HZ0 : Hid (W0.heap[w.heap.size]? = some (.cells zvar 73 (0, 0))) := by rw [hW0]; exact heap_alloc_new _ _
    have HK0 : Hid (Took w bp 61 A c ts s W0) := (took_refl HR.out).below HB0.out
    clear hW0
    refine (HC.out _ HK0.out.1).mono ?_
    rintro e wd ⟨rfl, hk⟩
    have HY1 := Lib.hid (hk.row HZ0.out (by omega))
    have HK2 := Lib.hid (HK0.out.trans hk)
    clear HZ0 HK0
    clear hk
    unfold varAgg
    dsimp only
    go_wp2_with fail
    obtain ⟨W3, hW⟩ : ∃ W, W = wd.alloc (.cells #[.string ⟨vn.toArray⟩, .int .i64 vt, .int .i64 vk, .string ⟨vc.toArray⟩] 73) := ⟨_, rfl⟩
    rw [← hW]
    have hbx : Below wd.heap.size wd W3 := by rw [hW]; exact (Below.refl _ _).alloc (Nat.le_refl _) _
    have HN3 : Hid (W3.heap[wd.heap.size]? = some (.cells #[.string ⟨vn.toArray⟩, .int .i64 vt, .int .i64 vk, .string ⟨vc.toArray⟩] 73 (0, 0))) := by rw [hW]; exact heap_alloc_new _ _
    have hlo3 : w.heap.size < wd.heap.size := (Array.getElem?_eq_some_iff.1 HY1.out).1
    clear hW
    have HY4 := Lib.hid ((hbx.block _ (Array.getElem?_eq_some_iff.1 HY1.out).1).trans HY1.out)
    have HK5 := Lib.hid (HK2.out.below hbx)
    clear HY1 HK2
    clear hbx
    refine (HTW.out _ HK5.out.1).mono ?_
    rintro e w6 ⟨rfl, hk⟩
    have HY7 := Lib.hid (hk.row HY4.out (by omega))
    have HY8 := Lib.hid (hk.row HN3.out (by omega))
    have HK9 := Lib.hid (HK5.out.trans hk)
    clear HY4 HN3 HK5
    clear hk
    go_wp2_with fail
    refine (HCN.out _ HK9.out.1).mono ?_
    rintro e w10 ⟨rfl, hk⟩
    have HY11 := Lib.hid (hk.row HY7.out (by omega))
    have HY12 := Lib.hid (hk.row HY8.out (by omega))
    have HK13 := Lib.hid (HK9.out.trans hk)
    clear HY7 HY8 HK9
    clear hk
    obtain ⟨k0, k1, k2, k3, k4, k5, k6, k7⟩ := row4 HY11.out
    obtain ⟨m0, m1, m2, m3, m4, m5, m6, m7⟩ := row4 HY12.out
    go_upto_region 6 with (fail)
    obtain ⟨W5, hW5⟩ : ∃ W5, W5 = (w10.setCell ⟨wd.heap.size, 2, none⟩ (.int .i64 1)).setCell ⟨wd.heap.size, 3, none⟩ (.string ⟨cn.toArray⟩) := ⟨_, rfl⟩
    rw [← hW5]
    have hlo : w.heap.size < wd.heap.size := by omega
    have HZ5 : Hid (W5.heap[w.heap.size]? = some (.cells zvar 73 (0, 0))) := by rw [hW5]; exact set1_keep (set1_keep HY11.out (by omega) _) (by omega) _
    have HM5 : Hid (W5.heap[wd.heap.size]? = some (.cells #[.string ⟨vn.toArray⟩, .int .i64 vt, .int .i64 1, .string ⟨cn.toArray⟩] 73 (0, 0))) := by rw [hW5]; exact set2_row HY12.out _ _
    have HK5 : Hid (Took w bp 61 A c ts s2 W5) := by rw [hW5]; exact (HK13.out.ours (grown_setCell _ _ _ _) HR.out (by omega)).ours (grown_setCell _ _ _ _) HR.out (by omega)
    clear hW5 k0 m0 k1 m1 k2 m2 k3 m3 k4 m4 k5 m5 k6 m6 k7 m7 HY11 HY12 HK13
    go_wp2_with fail
    refine (HN.out _ HK5.out.1).mono ?_
    rintro e w14 ⟨rfl, hk⟩
    have HY15 := Lib.hid (hk.row HZ5.out (by omega))
    have HY16 := Lib.hid (hk.row HM5.out (by omega))
    have HK17 := Lib.hid (HK5.out.trans hk)
    clear HZ5 HM5 HK5
    clear hk
    obtain ⟨k0, k1, k2, k3, k4, k5, k6, k7⟩ := row4 HY15.out
    obtain ⟨m0, m1, m2, m3, m4, m5, m6, m7⟩ := row4 HY16.out
    go_wp2_with fail
    exact ret_row 2 rfl rfl rfl (setrow4 HY15.out _ _ _ _) Try.underlying73 infoVar ⟨rfl, took_set4 HK17.out.1 HK17.out.2 HR.out (Nat.le_refl _) _ _ _ _⟩
  rw [h1, if_neg (by decide)] at hr HTW
  clear h1
  unfold wWhen at HTW
  rcases h2 : sees ts s1 wUnless with _ | _
  rotate_left
  · rw [h2, if_pos rfl] at hr HTU
    clear h2
    unfold wUnless at HTU
    have HCN := Lib.hid (fun W h => name_any bp A c ts s1.adv W h)
    generalize Tr.name ts s1.adv = nm at *
    obtain ⟨cn, s2⟩ := nm
    dsimp only at hr HCN
    have HN := Lib.hid (fun W h => need_any bp A c ts s2 [59] W h)
    generalize Tr.need ts s2 [59] = s3 at *
    subst hr
    go_enter Try.func66, Try.ntmps66
    go_wp2_with fail
    obtain ⟨W0, hW0⟩ : ∃ W0, W0 = w.alloc (.cells zvar 73) := ⟨_, rfl⟩
    unfold zvar at hW0
    rw [← hW0]
    have HB0 : Hid (Below w.heap.size w W0) := by rw [hW0]; exact HW0.out _
    have HZ0 : Hid (W0.heap[w.heap.size]? = some (.cells zvar 73 (0, 0))) := by rw [hW0]; exact heap_alloc_new _ _
    have HK0 : Hid (Took w bp 61 A c ts s W0) := (took_refl HR.out).below HB0.out
    clear hW0
    refine (HC.out _ HK0.out.1).mono ?_
    rintro e wd ⟨rfl, hk⟩
    have HY1 := Lib.hid (hk.row HZ0.out (by omega))
    have HK2 := Lib.hid (HK0.out.trans hk)
    clear HZ0 HK0
    clear hk
    unfold varAgg
    dsimp only
    go_wp2_with fail
    obtain ⟨W3, hW⟩ : ∃ W, W = wd.alloc (.cells #[.string ⟨vn.toArray⟩, .int .i64 vt, .int .i64 vk, .string ⟨vc.toArray⟩] 73) := ⟨_, rfl⟩
    rw [← hW]
    have hbx : Below wd.heap.size wd W3 := by rw [hW]; exact (Below.refl _ _).alloc (Nat.le_refl _) _
    have HN3 : Hid (W3.heap[wd.heap.size]? = some (.cells #[.string ⟨vn.toArray⟩, .int .i64 vt, .int .i64 vk, .string ⟨vc.toArray⟩] 73 (0, 0))) := by rw [hW]; exact heap_alloc_new _ _
    have hlo3 : w.heap.size < wd.heap.size := (Array.getElem?_eq_some_iff.1 HY1.out).1
    clear hW
    have HY4 := Lib.hid ((hbx.block _ (Array.getElem?_eq_some_iff.1 HY1.out).1).trans HY1.out)
    have HK5 := Lib.hid (HK2.out.below hbx)
    clear HY1 HK2
    clear hbx
    refine (HTW.out _ HK5.out.1).mono ?_
    rintro e w6 ⟨rfl, hk⟩
    have HY7 := Lib.hid (hk.row HY4.out (by omega))
    have HY8 := Lib.hid (hk.row HN3.out (by omega))
    have HK9 := Lib.hid (HK5.out.trans hk)
    clear HY4 HN3 HK5
    clear hk
    go_wp2_with fail
    refine (HTU.out _ HK9.out.1).mono ?_
    rintro e w10 ⟨rfl, hk⟩
    have HY11 := Lib.hid (hk.row HY7.out (by omega))
    have HY12 := Lib.hid (hk.row HY8.out (by omega))
    have HK13 := Lib.hid (HK9.out.trans hk)
    clear HY7 HY8 HK9
    clear hk
    go_wp2_with fail
    refine (HCN.out _ HK13.out.1).mono ?_
    rintro e w14 ⟨rfl, hk⟩
    have HY15 := Lib.hid (hk.row HY11.out (by omega))
    have HY16 := Lib.hid (hk.row HY12.out (by omega))
    have HK17 := Lib.hid (HK13.out.trans hk)
    clear HY11 HY12 HK13
    clear hk
    obtain ⟨k0, k1, k2, k3, k4, k5, k6, k7⟩ := row4 HY15.out
    obtain ⟨m0, m1, m2, m3, m4, m5, m6, m7⟩ := row4 HY16.out
    go_upto_region 6 with (fail)
    obtain ⟨W5, hW5⟩ : ∃ W5, W5 = (w14.setCell ⟨wd.heap.size, 2, none⟩ (.int .i64 2)).setCell ⟨wd.heap.size, 3, none⟩ (.string ⟨cn.toArray⟩) := ⟨_, rfl⟩
    rw [← hW5]
    have hlo : w.heap.size < wd.heap.size := by omega
    have HZ5 : Hid (W5.heap[w.heap.size]? = some (.cells zvar 73 (0, 0))) := by rw [hW5]; exact set1_keep (set1_keep HY15.out (by omega) _) (by omega) _
    have HM5 : Hid (W5.heap[wd.heap.size]? = some (.cells #[.string ⟨vn.toArray⟩, .int .i64 vt, .int .i64 2, .string ⟨cn.toArray⟩] 73 (0, 0))) := by rw [hW5]; exact set2_row HY16.out _ _
    have HK5 : Hid (Took w bp 61 A c ts s2 W5) := by rw [hW5]; exact (HK17.out.ours (grown_setCell _ _ _ _) HR.out (by omega)).ours (grown_setCell _ _ _ _) HR.out (by omega)
    clear hW5 k0 m0 k1 m1 k2 m2 k3 m3 k4 m4 k5 m5 k6 m6 k7 m7 HY15 HY16 HK17
    go_wp2_with fail
    refine (HN.out _ HK5.out.1).mono ?_
    rintro e w18 ⟨rfl, hk⟩
    have HY19 := Lib.hid (hk.row HZ5.out (by omega))
    have HY20 := Lib.hid (hk.row HM5.out (by omega))
    have HK21 := Lib.hid (HK5.out.trans hk)
    clear HZ5 HM5 HK5
    clear hk
    obtain ⟨k0, k1, k2, k3, k4, k5, k6, k7⟩ := row4 HY19.out
    obtain ⟨m0, m1, m2, m3, m4, m5, m6, m7⟩ := row4 HY20.out
    go_wp2_with fail
    exact ret_row 2 rfl rfl rfl (setrow4 HY19.out _ _ _ _) Try.underlying73 infoVar ⟨rfl, took_set4 HK21.out.1 HK21.out.2 HR.out (Nat.le_refl _) _ _ _ _⟩
  · rw [h2, if_neg (by decide)] at hr HTU
    clear h2
    unfold wUnless at HTU
    have HN := Lib.hid (fun W h => need_any bp A c ts s1 [59] W h)
    generalize Tr.need ts s1 [59] = s3 at *
    subst hr
    go_enter Try.func66, Try.ntmps66
    go_wp2_with fail
    obtain ⟨W0, hW0⟩ : ∃ W0, W0 = w.alloc (.cells zvar 73) := ⟨_, rfl⟩
    unfold zvar at hW0
    rw [← hW0]
    have HB0 : Hid (Below w.heap.size w W0) := by rw [hW0]; exact HW0.out _
    have HZ0 : Hid (W0.heap[w.heap.size]? = some (.cells zvar 73 (0, 0))) := by rw [hW0]; exact heap_alloc_new _ _
    have HK0 : Hid (Took w bp 61 A c ts s W0) := (took_refl HR.out).below HB0.out
    clear hW0
    refine (HC.out _ HK0.out.1).mono ?_
    rintro e wd ⟨rfl, hk⟩
    have HY1 := Lib.hid (hk.row HZ0.out (by omega))
    have HK2 := Lib.hid (HK0.out.trans hk)
    clear HZ0 HK0
    clear hk
    unfold varAgg
    dsimp only
    go_wp2_with fail
    obtain ⟨W3, hW⟩ : ∃ W, W = wd.alloc (.cells #[.string ⟨vn.toArray⟩, .int .i64 vt, .int .i64 vk, .string ⟨vc.toArray⟩] 73) := ⟨_, rfl⟩
    rw [← hW]
    have hbx : Below wd.heap.size wd W3 := by rw [hW]; exact (Below.refl _ _).alloc (Nat.le_refl _) _
    have HN3 : Hid (W3.heap[wd.heap.size]? = some (.cells #[.string ⟨vn.toArray⟩, .int .i64 vt, .int .i64 vk, .string ⟨vc.toArray⟩] 73 (0, 0))) := by rw [hW]; exact heap_alloc_new _ _
    have hlo3 : w.heap.size < wd.heap.size := (Array.getElem?_eq_some_iff.1 HY1.out).1
    clear hW
    have HY4 := Lib.hid ((hbx.block _ (Array.getElem?_eq_some_iff.1 HY1.out).1).trans HY1.out)
    have HK5 := Lib.hid (HK2.out.below hbx)
    clear HY1 HK2
    clear hbx
    refine (HTW.out _ HK5.out.1).mono ?_
    rintro e w6 ⟨rfl, hk⟩
    have HY7 := Lib.hid (hk.row HY4.out (by omega))
    have HY8 := Lib.hid (hk.row HN3.out (by omega))
    have HK9 := Lib.hid (HK5.out.trans hk)
    clear HY4 HN3 HK5
    clear hk
    go_wp2_with fail
    refine (HTU.out _ HK9.out.1).mono ?_
    rintro e w10 ⟨rfl, hk⟩
    have HY11 := Lib.hid (hk.row HY7.out (by omega))
    have HY12 := Lib.hid (hk.row HY8.out (by omega))
    have HK13 := Lib.hid (HK9.out.trans hk)
    clear HY7 HY8 HK9
    clear hk
    go_wp2_with fail
    refine (HN.out _ HK13.out.1).mono ?_
    rintro e w14 ⟨rfl, hk⟩
    have HY15 := Lib.hid (hk.row HY11.out (by omega))
    have HY16 := Lib.hid (hk.row HY12.out (by omega))
    have HK17 := Lib.hid (HK13.out.trans hk)
    clear HY11 HY12 HK13
    clear hk
    obtain ⟨k0, k1, k2, k3, k4, k5, k6, k7⟩ := row4 HY15.out
    obtain ⟨m0, m1, m2, m3, m4, m5, m6, m7⟩ := row4 HY16.out
    go_wp2_with fail
    exact ret_row 2 rfl rfl rfl (setrow4 HY15.out _ _ _ _) Try.underlying73 infoVar ⟨rfl, took_set4 HK17.out.1 HK17.out.2 HR.out (Nat.le_refl _) _ _ _ _⟩
end Go.Proofs.Ytilkilffkjhhbaa
namespace Go.Proofs.Ytilkilffkjhhbaa
set_option maxRecDepth 20000
set_option linter.unusedVariables false
open Go.RowKit Tr Mem

def varCells (v : Vr) : List Value := [.string ⟨v.name.toArray⟩, .int .i64 v.type, .int .i64 v.ck, .string ⟨v.cn.toArray⟩]
def varsCells (l : List Vr) : List Value := l.flatMap varCells
theorem varsCells_snoc (l : List Vr) (v : Vr) : varsCells (l ++ [v]) = varsCells l ++ varCells v := by simp [varsCells]
theorem varsCells_len (l : List Vr) : (varsCells l).length = l.length * 4 := by
  induction l with
  | nil => rfl
  | cons v l ih => simp only [varsCells, List.flatMap_cons, List.length_append, List.length_cons] at *; rw [ih]; simp [varCells]; omega
theorem var_one (v : Vr) : ∀ u ∈ varCells v, u.oneCell' = true := by intro u hu; simp [varCells] at hu; rcases hu with rfl | rfl | rfl | rfl <;> rfl
theorem infoVr : (Try.prog.info? 73).map (fun i => (i.zero, i.size, i.bytes)) = some (some (.agg #[.string ⟨#[]⟩, .int .i64 0, .int .i64 0, .string ⟨#[]⟩]), 4, 48) := by kernel_rfl
theorem own_took {W W' : World} {base bp size n : Nat} {e ty : TypeId} {A : Option Addr} {c : Nat} {ts : List Lx.Tok} {s : St} {v : Value} {xs : List Value} (h : W.ownsRow base e size v n xs) (hk : Took W bp ty A c ts s W') (hb : bp < base) : W'.ownsRow base e size v n xs := by
  refine ⟨h.1, ?_⟩
  rcases h.2 with h2 | ⟨g, cap, cur, hv, hg, hh, r⟩
  · exact .inl h2
  · exact .inr ⟨g, cap, cur, hv, hg, (hk.2.block g (Array.getElem?_eq_some_iff.1 hh).1 (fun e => by injection e with e; omega)).trans hh, r⟩
theorem own_one {W : World} (B : Nat) (hB : B ≤ W.heap.size) (v : Vr) : (W.alloc (.cells #[.string ⟨v.name.toArray⟩, .int .i64 v.type, .int .i64 v.ck, .string ⟨v.cn.toArray⟩] 73)).ownsRow B 73 4 (.slice (some ⟨W.heap.size, 0, none⟩) 1 1) 1 (varsCells [v]) :=
  ⟨rfl, .inr ⟨W.heap.size, 1, _, rfl, hB, heap_alloc_new W _, Nat.le_refl _, by decide, rfl, rfl⟩⟩
theorem took_grown {w W W' : World} {bp : Nat} {ty : TypeId} {A : Option Addr} {c : Nat} {ts : List Lx.Tok} {s s0 : St} {row : Option Nat} {n : Nat} (h : Took w bp ty A c ts s W) (hg : W.grownBy W' row) (h0 : RowAt w bp ty A c ts s0) (hlo : ∀ k, row = some k → w.heap.size ≤ k ∧ k < n) : Took w bp ty A c ts s W' := by
  rcases row with _ | g
  · exact h.ours (g := W.heap.size) ⟨hg.os, hg.tape, hg.output, hg.size, fun k hk _ => hg.block k hk (by simp)⟩ h0 h.2.size
  · exact h.ours hg h0 (hlo g rfl).1
/-- declarations behind one -/
def restD (ts : List Lx.Tok) (s : St) : List Vr × St := if sees ts s [59] then declsL ts s.adv else ([], need ts s [41])
theorem declsL_rest (ts : List Lx.Tok) (s : St) : declsL ts s = ((declP ts s).1 :: (restD ts (declP ts s).2).1, (restD ts (declP ts s).2).2) := by
  rw [declsL_eq]
  unfold restD
  split <;> rfl
def DeclsPost (w : World) (bp : Nat) (A : Option Addr) (c : Nat) (ts : List Lx.Tok) (r : List Vr × St) (e : Ending) (w' : World) : Prop :=
  ∃ v, e = .returned v ∧ w'.ownsRow w.heap.size 73 4 v r.1.length (varsCells r.1) ∧ Took w bp 61 A c ts r.2 w'
set_option maxHeartbeats 8000000 in
theorem decls_any (bp : Nat) (A : Option Addr) (c : Nat) (ts : List Lx.Tok) (s : St) (w : World) (h : RowAt w bp 61 A c ts s) :
    Calls Try.prog 65 #[.pointer (some ⟨bp, 0, none⟩)] w (DeclsPost w bp A c ts (declsP ts s)) := by
  have HR := Lib.hid h
  have hbw := h.lt
  obtain ⟨r, hr⟩ : ∃ r, r = declsP ts s := ⟨_, rfl⟩
  rw [← hr]
  unfold declsP at hr
  clear h
  have HN := Lib.hid (fun W h => need_any bp A c ts s [40] W h)
  generalize Tr.need ts s [40] = s1 at *
  have HT := Lib.hid (fun W h => take_any bp A c ts s1 [41] W h)
  rcases h1 : sees ts s1 [41] with _ | _
  rotate_left
  · rw [h1, if_pos rfl] at hr HT
    subst hr
    clear h1
    go_enter Try.func65, Try.ntmps65
    go_wp2_with fail
    refine (HN.out _ HR.out).mono ?_
    rintro e w1 ⟨rfl, hk1⟩
    have HK1 := Lib.hid hk1
    clear hk1
    go_wp2_with fail
    refine (HT.out _ HK1.out.1).mono ?_
    rintro e w2 ⟨rfl, hk2⟩
    have HK2 := Lib.hid (HK1.out.trans hk2)
    clear hk2
    go_wp2_with fail
    go_ret
    exact ⟨_, rfl, World.ownsRow_nil _ _ _ _, HK2.out⟩
  · rw [h1, if_neg (by decide)] at hr HT
    clear h1
    rw [declsL_rest] at hr
    have HRL := Lib.hid hr
    clear hr
    have HD := Lib.hid (fun s W h => decl_any bp A c ts s W h)
    have HDA := Lib.hid (fun s => declP_at (ts := ts) s)
    go_enter Try.func65, Try.ntmps65
    go_wp2_with fail
    refine (HN.out _ HR.out).mono ?_
    rintro e w1 ⟨rfl, hk1⟩
    have HK1 := Lib.hid hk1
    clear hk1
    go_wp2_with fail
    refine (HT.out _ HK1.out.1).mono ?_
    rintro e w2 ⟨rfl, hk2⟩
    have HK2 := Lib.hid (HK1.out.trans hk2)
    clear hk2 HK1
    go_wp2_with fail
    refine (HD.out s1 _ HK2.out.1).mono ?_
    rintro e w3 ⟨rfl, hk3⟩
    have HK3 := Lib.hid (HK2.out.trans hk3)
    have hk3s := HK3.out
    clear hk3 HK2
    generalize hq : declP ts s1 = q at *
    obtain ⟨v1, s2⟩ := q
    dsimp only at HRL HK3
    unfold varAgg
    dsimp only
    clear hq
    have HSZ := hk3s.2.size
    clear hk3s
    obtain ⟨i0, hi, hz0, hz1, hz2⟩ := info_parts infoVr
    go_wp2_with fail
    obtain ⟨W4, hW4⟩ : ∃ W4, W4 = w3.alloc (.cells #[.string ⟨v1.name.toArray⟩, .int .i64 v1.type, .int .i64 v1.ck, .string ⟨v1.cn.toArray⟩] 73) := ⟨_, rfl⟩
    rw [← hW4]
    have HO4 : Hid (W4.ownsRow w.heap.size 73 4 (.slice (some ⟨w3.heap.size, 0, none⟩) 1 1) 1 (varsCells [v1])) := by rw [hW4]; exact own_one _ HSZ v1
    have HK4 : Hid (Took w bp 61 A c ts s2 W4) := by rw [hW4]; exact HK3.out.alloc _
    clear hW4 HK3 HSZ
    go_loopw [3] (fun v wr => ∃ (done : List Vr) (s' : St), Hid (r = (done ++ (restD ts s').1, (restD ts s').2)) ∧ done.length ≤ s'.at_ + 1 ∧ Hid (wr.ownsRow w.heap.size 73 4 v done.length (varsCells done)) ∧ Hid (Took w bp 61 A c ts s' wr)) (fun _ wr => ts.length - atOf wr bp)
    case atStart => exact ⟨[v1], s2, HRL.out, by simp, HO4.out, HK4.out⟩
    case round =>
      obtain ⟨done, s', HJ, hdn, HO, HK⟩ := hrel
      have hle := HK.out.1.le
      have hlen := HK.out.1.len
      have hao := HK.out.1.atOf
      have hj := HJ.out
      unfold restD at hj
      have HC := Lib.hid (fun W h => take_any bp A c ts s' [59] W h)
      rcases h2 : sees ts s' [59] with _ | _
      · rw [h2, if_neg (by decide)] at hj HC
        have HJ1 := Lib.hid hj
        clear h2 hj
        have HNN := Lib.hid (fun W h => need_any bp A c ts s' [41] W h)
        go_wp2_with fail
        refine (HC.out _ HK.out.1).mono ?_
        rintro e w5 ⟨rfl, hk5⟩
        have HK5 := Lib.hid (HK.out.trans hk5)
        have HO5 := Lib.hid (own_took HO.out hk5 hbw)
        clear hk5
        go_wp2_with fail
        refine (HNN.out _ HK5.out.1).mono ?_
        rintro e w6 ⟨rfl, hk6⟩
        have HK6 := Lib.hid (HK5.out.trans hk6)
        have HO6 := Lib.hid (own_took HO5.out hk6 hbw)
        clear hk6
        go_wp2_with fail
        go_ret
        rw [HJ1.out]
        exact ⟨_, rfl, by simpa using HO6.out, HK6.out⟩
      · have hlt := (sees_lt h2).2
        rw [h2, if_pos rfl] at hj HC
        rw [declsL_rest] at hj
        have hda := declP_at (ts := ts) s'.adv
        rw [adv_at] at hda
        have HDD := Lib.hid (HD.out s'.adv)
        generalize declP ts s'.adv = q at *
        obtain ⟨v2, s3⟩ := q
        have HJ1 := Lib.hid hj
        dsimp only at hda
        clear h2 hj
        go_wp2_with fail
        refine (HC.out _ HK.out.1).mono ?_
        rintro e w5 ⟨rfl, hk5⟩
        have HK5 := Lib.hid (HK.out.trans hk5)
        have HO5 := Lib.hid (own_took HO.out hk5 hbw)
        clear hk5
        go_wp2_with fail
        refine (HDD.out _ HK5.out.1).mono ?_
        rintro e w6 ⟨rfl, hk6⟩
        have HK6 := Lib.hid (HK5.out.trans hk6)
        have HO6 := Lib.hid (own_took HO5.out hk6 hbw)
        have hsz6 := HK6.out.2.size
        have hlo := HO6.out.lt
        clear hk6
        dsimp only at HK6
        unfold varAgg
        dsimp only
        go_wp2_with ((at_builtin; refine wpList_append_own _ rfl _ _ 23 rfl w.heap.size 73 i0 (.agg #[.string ⟨#[]⟩, .int .i64 0, .int .i64 0, .string ⟨#[]⟩]) 4 48 Try.underlying23 hi hz0 hz1 hz2 rfl (by decide) _ _ _ rfl (HO6.out.alloc _) ⟨w6.heap.size, 0, none⟩ 1 1 (varCells v2) rfl rfl ?c1 ?c2 ?c3 ?c4 ?c5 ?_))
        case c1 => exact Go.Proofs.Ytilkilffkjhhbaa.cells_new _ _ _ _ rfl
        case c2 => exact var_one _
        case c3 => unfold maxLen; omega
        case c4 => omega
        case c5 => simp; omega
        intro v' w7 hown7 hgrow _
        have HO7 := Lib.hid hown7
        have HK7 : Hid (Took w bp 61 A c ts s3 w7) := took_grown (HK6.out.alloc _) hgrow HR.out hlo
        clear hown7 hgrow
        go_wp2_with fail
        go_roundw
        case rel => exact ⟨done ++ [v2], s3, by rw [HJ1.out]; simp [RowKit.Hid], by simp; omega, by rw [varsCells_snoc, List.length_append]; exact HO7.out, HK7.out⟩
        case measure => rw [hao, HK7.out.1.atOf]; omega
end Go.Proofs.Ytilkilffkjhhbaa
