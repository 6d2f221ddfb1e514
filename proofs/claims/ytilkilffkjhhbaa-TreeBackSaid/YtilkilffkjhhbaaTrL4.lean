/-
  A program that was written is read as it was: its text's tokens, and what they are read as. Plain Lean, no program in sight.
-/
import Derived.Test.YtilkilffkjhhbaaTrL12
namespace Go.Proofs.Ytilkilffkjhhbaa.Tr
set_option maxRecDepth 20000
set_option linter.unusedVariables false
open Lx (Bs Tok)

/-- a program's tokens -/
def declT (v : Vr) : List Tok :=
  nm v.name :: mk [58] :: kw (if v.type = 2 then wBool else wInt) :: (if v.ck = 1 then [kw wWhen, nm v.cn] else if v.ck = 2 then [kw wUnless, nm v.cn] else [])
def declsT : List Vr → List Tok
  | [] => []
  | [v] => declT v
  | v :: u :: r => declT v ++ mk [59] :: declsT (u :: r)
def localT (v : Vr) : List Tok := declT v ++ [mk [59]]
def delayT (q : Eqn) : List Tok := if q.delay = 1 then toks q.first ++ [kw wFby] else if q.delay = 2 then [kw wPre] else []
def eqT (q : Eqn) : List Tok := nm q.name :: mk [61] :: (delayT q ++ (toks q.e ++ [mk [59]]))
def pgT (p : Pg) : List Tok :=
  kw wNode :: nm p.name :: mk [40] :: (declsT p.ins ++ mk [41] :: kw wReturns :: mk [40] :: (declsT p.outs ++ mk [41] :: mk [59] ::
    ((if p.locals = [] then [] else [kw wVar]) ++ (p.locals.flatMap localT ++ kw wLet :: (p.eqs.flatMap eqT ++ [kw wTel])))))
/-! its text reads as these -/
def Lines (t : Bs) (ts : List Tok) : Prop := ∀ k ws, Reads k ws → Reads (t ++ k) (ts ++ ws)
theorem varOk_name {own : Bool} {v : Vr} (h : varOk own v = true) : Lx.isName v.name = true := by
  unfold varOk at h
  simp only [Bool.and_eq_true] at h
  exact h.1.1
theorem varOk_cn {own : Bool} {v : Vr} (h : varOk own v = true) (hc : v.ck = 1 ∨ v.ck = 2) : Lx.isName v.cn = true := by
  unfold varOk at h
  simp only [Bool.and_eq_true, Bool.or_eq_true, beq_iff_eq] at h
  rcases h.2 with ⟨h0, -⟩ | ⟨-, h2⟩
  · omega
  · exact h2
theorem writes_decl {own : Bool} {v : Vr} (h : varOk own v = true) : Writes (declared v) (declT v) := by
  have hn := varOk_name h
  have h1 : ∀ w : Bs, Lx.isWord w = true → Writes (v.name ++ sp ++ [58] ++ sp ++ w) ([nm v.name] ++ [mk [58]] ++ [kw w]) := fun w hw => Writes.sp (Writes.sp (writes_name hn) (writes_mark (by decide))) (writes_word hw)
  have h2 : Writes (v.name ++ (if v.type = 2 then [32, 58, 32, 98, 111, 111, 108] else [32, 58, 32, 105, 110, 116])) [nm v.name, mk [58], kw (if v.type = 2 then wBool else wInt)] := by
    by_cases e : v.type = 2
    · rw [if_pos e, if_pos e]
      have := h1 wBool (by decide)
      simpa [sp, wBool] using this
    · rw [if_neg e, if_neg e]
      have := h1 wInt (by decide)
      simpa [sp, wInt] using this
  unfold declared declT
  by_cases e1 : v.ck = 1
  · rw [if_pos e1, if_pos e1]
    have := Writes.sp (Writes.sp h2 (writes_word (w := wWhen) (by decide))) (writes_name (varOk_cn h (.inl e1)))
    simpa [sp] using this
  · rw [if_neg e1, if_neg e1]
    by_cases e2 : v.ck = 2
    · rw [if_pos e2, if_pos e2]
      have := Writes.sp (Writes.sp h2 (writes_word (w := wUnless) (by decide))) (writes_name (varOk_cn h (.inr e2)))
      simpa [sp] using this
    · rw [if_neg e2, if_neg e2, List.append_nil]
      exact h2
theorem writes_nil : Writes [] [] := fun _ _ _ hr => hr
theorem writes_decls {own : Bool} : ∀ {l : List Vr}, l.all (varOk own) = true → Writes (decls l) (declsT l)
  | [], _ => writes_nil
  | [v], h => by
    rw [decls, declsT]
    exact writes_decl (own := own) (by simpa using h)
  | v :: u :: r, h => by
    rw [List.all_cons, Bool.and_eq_true] at h
    intro k ws hk hr
    have h1 := writes_decls h.2 k ws hk hr
    have h2 := writes_mark (w := [59]) (by decide) (32 :: (decls (u :: r) ++ k)) _ (stop_sp _) (reads_sp h1)
    have h3 := writes_decl h.1 (59 :: 32 :: (decls (u :: r) ++ k)) _ (stop_semi _) h2
    rw [decls, declsT]
    simpa using h3
theorem lines_local {own : Bool} {v : Vr} (h : varOk own v = true) : Lines (localText v) (localT v) := by
  intro k ws hr
  have h2 := writes_mark (w := [59]) (by decide) (10 :: k) _ (stop_nl _) (reads_nl hr)
  have h3 := writes_decl h (59 :: 10 :: k) _ (stop_semi _) h2
  have h4 := reads_sp (reads_sp h3)
  unfold localText localT
  simpa using h4
theorem right_formed {x : Ex} (h : right x = 0) : formed x = true := by
  unfold right at h
  split at h
  · cases h
  · split at h
    · cases h
    · split at h
      · assumption
      · cases h
theorem literal_form {x : Ex} (h : literal x = true) : Form x := by
  unfold literal at h
  simp only [Bool.and_eq_true, beq_iff_eq] at h
  exact form_of x (right_formed h.1)
theorem eqOk_parts {q : Eqn} (h : eqOk q = true) : Lx.isName q.name = true ∧ right q.e = 0 ∧ ((q.delay = 1 ∧ literal q.first = true) ∨ (q.delay = 2 ∧ q.first = Ex.zero) ∨ (q.delay = 0 ∧ q.first = Ex.zero)) := by
  unfold eqOk at h
  simp only [Bool.and_eq_true, beq_iff_eq] at h
  refine ⟨h.1.1, h.1.2, ?_⟩
  have h2 := h.2
  split at h2
  · rename_i e; exact .inl ⟨e, h2⟩
  · simp only [Bool.and_eq_true, Bool.or_eq_true, beq_iff_eq] at h2
    have hz := (same_iff _ _).1 h2.2
    rcases h2.1 with e | e
    · exact .inr (.inr ⟨e, hz⟩)
    · exact .inr (.inl ⟨e, hz⟩)
theorem lines_eq {q : Eqn} (h : eqOk q = true) : Lines (eqText q) (eqT q) := by
  obtain ⟨hn, hr0, hd⟩ := eqOk_parts h
  intro k ws hr
  have hE := writes_text (form_of _ (right_formed hr0))
  have h1 := writes_mark (w := [59]) (by decide) (10 :: k) _ (stop_nl _) (reads_nl hr)
  have h2 : Writes ((if q.delay = 1 then text q.first ++ [32] ++ wFby ++ [32] else if q.delay = 2 then wPre ++ [32] else []) ++ text q.e) (delayT q ++ toks q.e) := by
    unfold delayT
    by_cases e1 : q.delay = 1
    · rw [if_pos e1, if_pos e1]
      have hl : literal q.first = true := by
        rcases hd with ⟨-, h⟩ | ⟨h, -⟩ | ⟨h, -⟩
        · exact h
        · omega
        · omega
      have := Writes.sp (Writes.sp (writes_text (literal_form hl)) (writes_word (w := wFby) (by decide))) hE
      simpa [sp] using this
    · rw [if_neg e1, if_neg e1]
      by_cases e2 : q.delay = 2
      · rw [if_pos e2, if_pos e2]
        have := Writes.sp (writes_word (w := wPre) (by decide)) hE
        simpa [sp] using this
      · rw [if_neg e2, if_neg e2, List.nil_append, List.nil_append]
        exact hE
  have h3 := Writes.sp (Writes.sp (writes_name hn) (writes_mark (w := [61]) (by decide))) h2 (59 :: 10 :: k) _ (stop_semi _) h1
  have h4 := reads_sp (reads_sp h3)
  unfold eqText eqT
  simpa [sp] using h4
theorem lines_flat {α : Type} {f : α → Bs} {g : α → List Tok} : ∀ {l : List α}, (∀ x ∈ l, Lines (f x) (g x)) → Lines (l.flatMap f) (l.flatMap g)
  | [], _ => fun _ _ hr => hr
  | x :: r, h => by
    intro k ws hr
    have h1 := lines_flat (l := r) (fun y hy => h y (List.mem_cons_of_mem _ hy)) k ws hr
    have h2 := h x (by simp) _ _ h1
    rw [List.flatMap_cons, List.flatMap_cons]
    simpa using h2
theorem reads_pg {p : Pg} (h : whole p = true) : Reads (pgText p) (pgT p) := by
  unfold whole at h
  simp only [Bool.and_eq_true] at h
  obtain ⟨⟨⟨⟨hn, hi⟩, ho⟩, hl⟩, he⟩ := h
  have a1 := writes_word (w := wTel) (by decide) [10] [] (stop_nl _) (reads_nl reads_nil)
  have a2 := lines_flat (f := eqText) (g := eqT) (l := p.eqs) (fun q hq => lines_eq (List.all_eq_true.1 he q hq)) _ _ a1
  have a3 := writes_word (w := wLet) (by decide) _ _ (stop_nl _) (reads_nl a2)
  have a4 := lines_flat (f := localText) (g := localT) (l := p.locals) (fun q hq => lines_local (List.all_eq_true.1 hl q hq)) _ _ a3
  have a5 : Reads ((if p.locals = [] then [] else wVar ++ [10]) ++ (p.locals.flatMap localText ++ (wLet ++ 10 :: (p.eqs.flatMap eqText ++ (wTel ++ [10]))))) ((if p.locals = [] then [] else [kw wVar]) ++ (p.locals.flatMap localT ++ ([kw wLet] ++ (p.eqs.flatMap eqT ++ ([kw wTel] ++ []))))) := by
    by_cases e : p.locals = []
    · rw [if_pos e, if_pos e]; exact a4
    · rw [if_neg e, if_neg e]
      have := writes_word (w := wVar) (by decide) _ _ (stop_nl _) (reads_nl a4)
      simpa using this
  have a6 := writes_mark (w := [59]) (by decide) _ _ (stop_nl _) (reads_nl a5)
  have a7 := writes_mark (w := [41]) (by decide) _ _ (stop_semi _) a6
  have a8 := writes_decls ho _ _ (stop_close _) a7
  have a9 := reads_cut (cut_open _) a8
  have b1 := writes_word (w := wReturns) (by decide) _ _ (stop_sp _) (reads_sp a9)
  have b2 := writes_mark (w := [41]) (by decide) _ _ (stop_sp _) (reads_sp b1)
  have b3 := writes_decls hi _ _ (stop_close _) b2
  have b4 := reads_cut (cut_open _) b3
  have b5 := writes_name hn _ _ (stop_sp _) (reads_sp b4)
  have b6 := writes_word (w := wNode) (by decide) _ _ (stop_sp _) (reads_sp b5)
  unfold pgText pgT
  simpa using b6
/-! and these are read as the program -/
section
variable {ts : List Tok} {i : Nat}
theorem declP_on {own : Bool} {v : Vr} (hv : varOk own v = true) {r : List Tok} (h : On ts i (nm v.name :: mk [58] :: kw (if v.type = 2 then wBool else wInt) :: r)) : declP ts (S i) = (⟨v.name, v.type, 0, []⟩, S (i + 3)) := by
  have ht : v.type = 1 ∨ v.type = 2 := by
    unfold varOk at hv
    simp only [Bool.and_eq_true, Bool.or_eq_true, beq_iff_eq] at hv
    exact hv.1.2
  unfold declP
  rw [h.name]
  simp only
  rw [h.step.need rfl, h.step.step.sees]
  rcases ht with e | e
  · have hn := h.step.step.need (m := wInt) (by rw [e]; rfl)
    rw [hn, e]
    rfl
  · rw [e, S_adv]
    rfl
theorem declT_base {v : Vr} (h : varOk false v = true) : declT v = [nm v.name, mk [58], kw (if v.type = 2 then wBool else wInt)] ∧ v = ⟨v.name, v.type, 0, []⟩ := by
  unfold varOk at h
  simp only [Bool.and_eq_true, Bool.or_eq_true, beq_iff_eq, Bool.false_and, Bool.false_eq_true, or_false] at h
  obtain ⟨n, t, c, m⟩ := v
  obtain ⟨rfl, rfl⟩ : c = 0 ∧ m = [] := h.2
  exact ⟨rfl, rfl⟩
theorem declsT_len : ∀ l : List Vr, l.length ≤ (declsT l).length
  | [] => Nat.le_refl _
  | [v] => by simp [declsT, declT]
  | v :: u :: r => by
    have := declsT_len (u :: r)
    rw [declsT]
    simp only [List.length_append, List.length_cons] at this ⊢
    omega
theorem declsF_on : ∀ (f : Nat) (l : List Vr) (i : Nat) (v : Vr), (v :: l).all (varOk false) = true → ∀ r, On ts i (declsT (v :: l) ++ mk [41] :: r) → l.length < f → declsF ts f (S i) = (v :: l, S (i + (declsT (v :: l)).length + 1))
  | 0, _, _, _, _, _, _, h => by omega
  | f + 1, l, i, v, hv, r, ho, hf => by
    rw [List.all_cons, Bool.and_eq_true] at hv
    obtain ⟨e1, e2⟩ := declT_base hv.1
    cases l with
    | nil =>
      rw [declsT, e1] at ho ⊢
      have hd := declP_on hv.1 ho
      have h3 : On ts (i + 3) (mk [41] :: r) := ho.step.step.step
      rw [declsF, hd]
      simp only
      rw [h3.sees, if_neg (by rw [show hsees (mk [41] :: r) [59] = false from rfl]; decide), h3.need rfl, ← e2]
      rfl
    | cons u l =>
      rw [declsT, e1] at ho ⊢
      have hd := declP_on hv.1 ho
      have h3 : On ts (i + 3) (mk [59] :: (declsT (u :: l) ++ mk [41] :: r)) := by have := ho.step.step.step; simpa using this
      have h4 := declsF_on f l (i + 3 + 1) u hv.2 r h3.step (by simp at hf; omega)
      rw [declsF, hd]
      simp only
      rw [h3.sees, if_pos (by rfl), S_adv, h4, ← e2]
      simp only [List.length_append, List.length_cons, List.length_nil, Prod.mk.injEq, true_and]
      congr 1
      omega
theorem declsP_on {l : List Vr} (hv : l.all (varOk false) = true) {r : List Tok} (h : On ts i (mk [40] :: (declsT l ++ mk [41] :: r))) (hi : i ≤ ts.length) : declsP ts (S i) = (l, S (i + (declsT l).length + 2)) := by
  unfold declsP
  rw [h.need rfl, h.step.sees]
  cases l with
  | nil => rw [if_pos (by rfl), S_adv]; rfl
  | cons v l =>
    have hs : hsees (declsT (v :: l) ++ mk [41] :: r) [41] = false := by
      cases l <;> rfl
    have hlen := h.step.len (by have := h.len hi; simp at this; omega)
    have := declsT_len (v :: l)
    rw [hs, if_neg (by decide), declsL, declsF_on _ l (i + 1) v hv r h.step (by simp only [List.length_append, List.length_cons] at hlen this; simp only [S]; omega)]
    simp only [Prod.mk.injEq, true_and]
    congr 1
    omega
theorem ownP_on {v : Vr} (hv : varOk true v = true) {r : List Tok} (h : On ts i (localT v ++ r)) : ownP ts (S i) = (v, S (i + (localT v).length)) := by
  have hck : (v.ck = 0 ∧ v.cn = []) ∨ v.ck = 1 ∨ v.ck = 2 := by
    unfold varOk at hv
    simp only [Bool.and_eq_true, Bool.or_eq_true, beq_iff_eq] at hv
    rcases hv.2 with h | h
    · exact .inl h
    · exact .inr h.1.2
  obtain ⟨n, t, c, m⟩ := v
  dsimp only at hck
  rcases hck with ⟨rfl, rfl⟩ | rfl | rfl
  · have h0 : On ts i (nm n :: mk [58] :: kw (if t = 2 then wBool else wInt) :: mk [59] :: r) := h
    have hd := declP_on hv h0
    have h3 := h0.step.step.step
    unfold ownP
    rw [hd]
    simp only
    rw [h3.sees, h3.sees, if_neg (by rw [show hsees (mk [59] :: r) wWhen = false from rfl]; decide), if_neg (by rw [show hsees (mk [59] :: r) wUnless = false from rfl]; decide), h3.need rfl]
    rfl
  · have h0 : On ts i (nm n :: mk [58] :: kw (if t = 2 then wBool else wInt) :: kw wWhen :: nm m :: mk [59] :: r) := h
    have hd := declP_on hv h0
    have h3 := h0.step.step.step
    unfold ownP
    rw [hd]
    simp only
    rw [h3.sees, if_pos (by rfl), S_adv, h3.step.name]
    simp only
    rw [h3.step.step.need rfl]
    rfl
  · have h0 : On ts i (nm n :: mk [58] :: kw (if t = 2 then wBool else wInt) :: kw wUnless :: nm m :: mk [59] :: r) := h
    have hd := declP_on hv h0
    have h3 := h0.step.step.step
    unfold ownP
    rw [hd]
    simp only
    rw [h3.sees, h3.sees, if_neg (by rw [show hsees (kw wUnless :: nm m :: mk [59] :: r) wWhen = false from rfl]; decide), if_pos (by rfl), S_adv, h3.step.name]
    simp only
    rw [h3.step.step.need rfl]
    rfl
theorem localT_hd (v : Vr) : ∃ l, localT v = nm v.name :: l := ⟨_, rfl⟩
theorem flat_len {α : Type} {g : α → List Tok} (hg : ∀ x, 0 < (g x).length) : ∀ l : List α, l.length ≤ (l.flatMap g).length
  | [] => Nat.le_refl _
  | x :: r => by
    have := flat_len hg r
    have := hg x
    rw [List.flatMap_cons, List.length_append, List.length_cons]
    omega
theorem ownsF_on : ∀ (f : Nat) (l : List Vr) (i : Nat) (v : Vr), (v :: l).all (varOk true) = true → ∀ r, On ts i ((v :: l).flatMap localT ++ kw wLet :: r) → l.length < f → ownsF ts f (S i) = (v :: l, S (i + ((v :: l).flatMap localT).length))
  | 0, _, _, _, _, _, _, h => by omega
  | f + 1, l, i, v, hv, r, ho, hf => by
    rw [List.all_cons, Bool.and_eq_true] at hv
    rw [List.flatMap_cons, List.append_assoc] at ho
    have hd := ownP_on hv.1 ho
    have hn := ho.skip
    rw [ownsF, hd]
    simp only
    rw [hn.sees]
    cases l with
    | nil =>
      rw [if_pos (by rfl)]
      simp [List.flatMap_cons]
    | cons u l =>
      have h4 := ownsF_on f l (i + (localT v).length) u hv.2 r hn (by simp at hf; omega)
      have hs : ((S (i + (localT v).length)).bad || hsees ((u :: l).flatMap localT ++ kw wLet :: r) wLet) = false := rfl
      rw [hs, if_neg (by decide), h4]
      simp only [List.flatMap_cons, List.length_append, Prod.mk.injEq, true_and]
      congr 1
      omega
theorem localsP_on {l : List Vr} (hv : l.all (varOk true) = true) {r : List Tok} (h : On ts i ((if l = [] then [] else [kw wVar]) ++ (l.flatMap localT ++ kw wLet :: r))) (hi : i ≤ ts.length) :
    localsP ts (S i) = (l, S (i + ((if l = [] then [] else [kw wVar]) ++ l.flatMap localT).length)) := by
  unfold localsP
  cases l with
  | nil =>
    have h0 : On ts i (kw wLet :: r) := h
    rw [h0.sees, if_neg (by rw [show hsees (kw wLet :: r) wVar = false from rfl]; decide)]
    rfl
  | cons v l =>
    have e0 : (if v :: l = [] then [] else [kw wVar]) = [kw wVar] := if_neg (by simp)
    rw [e0] at h ⊢
    have h0 : On ts i (kw wVar :: ((v :: l).flatMap localT ++ kw wLet :: r)) := h
    have hlen := h0.step.len (by have := h0.len hi; simp at this; omega)
    have := flat_len (g := localT) (fun x => by simp [localT, declT]) (v :: l)
    rw [h0.sees, if_pos (by rfl), S_adv, ownsL, ownsF_on _ l (i + 1) v hv r h0.step (by simp only [List.length_append, List.length_cons] at hlen this; simp only [S]; omega)]
    simp only [List.length_append, List.length_cons, List.length_nil, Prod.mk.injEq, true_and]
    congr 1
    omega
/-! no expression's tokens hold a word of an equation -/
def okT (t : Tok) : Bool := !((t.kind == 3 || t.kind == 4) && (t.text == wFby || t.text == wPre))
theorem okT_part {x : Ex} (h : (toks x).all okT = true) : (partT x).all okT = true := by
  unfold partT
  split
  · exact h
  · simp [h, okT, mk, wFby, wPre]
theorem toks_okT {x : Ex} (h : Form x) : (toks x).all okT = true := by
  have kwok : ∀ w : Bs, (w == wFby || w == wPre) = false → okT (kw w) = true := fun w h => by simp only [okT, kw, h]; rfl
  have mkok : ∀ w : Bs, (w == wFby || w == wPre) = false → okT (mk w) = true := fun w h => by simp only [okT, mk, h]; rfl
  have nmok : ∀ w : Bs, okT (nm w) = true := fun w => rfl
  have nuok : ∀ n : Int, okT (nu n) = true := fun n => rfl
  induction h with
  | num n h0 h1 => rw [toks_num]; simp [nuok]
  | tru => rw [toks_tru]; decide
  | fls => rw [toks_fls]; decide
  | var m h => rw [toks_var]; simp [nmok]
  | neg a ha ih => rw [toks_neg, List.all_cons, okT_part ih]; decide
  | not a ha ih => rw [toks_not, List.all_cons, okT_part ih]; decide
  | bin o h0 h1 a b ha hb iha ihb =>
    have := mkok (opm o) (op_cases (Q := fun o => (opm o == wFby || opm o == wPre) = false) h0 h1 (by decide))
    rw [toks_bin, List.all_append, List.all_cons, okT_part iha, okT_part ihb, this]; rfl
  | cond a b c ha hb hc iha ihb ihc => rw [toks_if]; simp only [List.all_append, List.all_cons, iha, ihb, ihc]; decide
  | arr a b ha hb iha ihb => rw [toks_arrow]; simp only [List.all_append, List.all_cons, okT_part iha, okT_part ihb]; decide
  | when_ m h a ha ih => rw [toks_when]; simp only [List.all_append, List.all_cons, List.all_nil, okT_part ih, nmok]; decide
  | unless_ m h a ha ih => rw [toks_unless]; simp only [List.all_append, List.all_cons, List.all_nil, okT_part ih, nmok]; decide
  | merge m h a b ha hb iha ihb => rw [toks_merge]; simp only [List.all_append, List.all_cons, okT_part iha, okT_part ihb, nmok]; decide
theorem toks_ne {x : Ex} (h : Form x) : toks x ≠ [] := by
  cases h <;> simp only [toks_num, toks_tru, toks_fls, toks_var, toks_neg, toks_not, toks_bin, toks_if, toks_arrow, toks_when, toks_unless, toks_merge] <;> simp
theorem okT_sees {t : Tok} (h : okT t = true) (l : List Tok) : hsees (t :: l) wFby = false ∧ hsees (t :: l) wPre = false := by
  unfold okT at h
  unfold hsees
  cases hk : (t.kind == 3 || t.kind == 4) <;> cases h1 : t.text == wFby <;> cases h2 : t.text == wPre <;> simp_all
theorem litP_none {l : List Tok} (h : On ts i l) (hs : hsees l wFby = false) (m : Bool) (x : Ex) : litP ts (S i) m x = none := by
  unfold litP
  rw [h.sees, hs, if_neg (by decide)]
theorem firstP_none {x : Ex} (hx : Form x) {r : List Tok} (h : On ts i (toks x ++ mk [59] :: r)) : firstP ts (S i) = none := by
  have hok := toks_okT hx
  have hne := toks_ne hx
  have h59 : ∀ l : List Tok, l.all okT = true → hsees (l ++ mk [59] :: r) wFby = false := fun l hl => by
    cases l with
    | nil => rfl
    | cons t l =>
      rw [List.all_cons, Bool.and_eq_true] at hl
      exact (okT_sees hl.1 _).1
  generalize toks x = l at *
  cases l with
  | nil => exact absurd rfl hne
  | cons t l =>
    rw [List.all_cons, Bool.and_eq_true] at hok
    have h1 : On ts (i + 1) (l ++ mk [59] :: r) := h.step
    have n1 := litP_none h1 (h59 l hok.2)
    unfold firstP
    rw [S_adv, S_adv]
    split
    · cases l with
      | nil =>
        have h1' : On ts (i + 1) (mk [59] :: r) := h1
        rw [h1'.kind, if_neg (by rw [show hkind (mk [59] :: r) 2 = false from rfl]; decide)]
      | cons u l =>
        rw [List.all_cons, Bool.and_eq_true] at hok
        have h2 : On ts (i + 1 + 1) (l ++ mk [59] :: r) := h1.step
        rw [litP_none h2 (h59 l hok.2.2)]
        split <;> rfl
    · simp only [n1]
      repeat' split
      all_goals rfl
theorem literal_cases {x : Ex} (h : literal x = true) : (∃ n, x = .mk 1 n [] []) ∨ x = .mk 2 1 [] [] ∨ x = .mk 2 0 [] [] ∨ ∃ n, x = .mk 4 1 [] [.mk 1 n [] []] := by
  have hf := literal_form h
  unfold literal at h
  simp only [Bool.and_eq_true, Bool.or_eq_true, beq_iff_eq] at h
  have h2 := h.2
  cases hf with
  | num n => exact .inl ⟨n, rfl⟩
  | tru => exact .inr (.inl rfl)
  | fls => exact .inr (.inr (.inl rfl))
  | neg a ha =>
    simp [Ex.kind, Ex.sub, Ex.n] at h2
    cases ha <;> simp at h2
    exact .inr (.inr (.inr ⟨_, rfl⟩))
  | _ => simp [Ex.kind, Ex.sub, Ex.n] at h2
theorem litP_some {r : List Tok} (h : On ts i (kw wFby :: r)) (m : Bool) (x : Ex) : litP ts (S i) m x = some (if m then .mk 4 1 [] [x] else x, S (i + 1)) := by
  unfold litP
  rw [h.sees, if_pos (by rfl), S_adv]
theorem firstP_some {x : Ex} (hx : literal x = true) {r : List Tok} (h : On ts i (toks x ++ kw wFby :: r)) : firstP ts (S i) = some (x, S (i + (toks x).length + 1)) := by
  unfold firstP
  rcases literal_cases hx with ⟨n, rfl⟩ | rfl | rfl | ⟨n, rfl⟩
  · rw [toks_num] at h ⊢
    have h0 : On ts i (nu n :: kw wFby :: r) := h
    rw [h0.sees, if_neg (by rw [show hsees (nu n :: kw wFby :: r) [45] = false from rfl]; decide), h0.kind, if_pos (by rfl), h0.tok, S_adv, litP_some h0.step]
    rfl
  · rw [toks_tru] at h ⊢
    have h0 : On ts i (kw wTrue :: kw wFby :: r) := h
    rw [h0.sees, if_neg (by rw [show hsees (kw wTrue :: kw wFby :: r) [45] = false from rfl]; decide), h0.kind, if_neg (by rw [show hkind (kw wTrue :: kw wFby :: r) 2 = false from rfl]; decide), h0.sees, if_pos (by rfl), S_adv, litP_some h0.step]
    rfl
  · rw [toks_fls] at h ⊢
    have h0 : On ts i (kw wFalse :: kw wFby :: r) := h
    rw [h0.sees, if_neg (by rw [show hsees (kw wFalse :: kw wFby :: r) [45] = false from rfl]; decide), h0.kind, if_neg (by rw [show hkind (kw wFalse :: kw wFby :: r) 2 = false from rfl]; decide), h0.sees, h0.sees, if_neg (by rw [show hsees (kw wFalse :: kw wFby :: r) wTrue = false from rfl]; decide), if_pos (by rfl), S_adv, litP_some h0.step]
    rfl
  · have e : toks (.mk 4 1 [] [.mk 1 n [] []]) = [mk [45], nu n] := by rw [toks_neg]; show mk [45] :: toks (.mk 1 n [] []) = _; rw [toks_num]
    rw [e] at h ⊢
    have h0 : On ts i (mk [45] :: nu n :: kw wFby :: r) := h
    rw [h0.sees, if_pos (by rfl), S_adv, S_adv, h0.step.kind, if_pos (by rfl), h0.step.tok, litP_some h0.step.step]
    rfl
theorem eqP_on {q : Eqn} (hq : eqOk q = true) {r : List Tok} (h : On ts i (eqT q ++ r)) : eqP ts (S i) = (q, S (i + (eqT q).length)) := by
  obtain ⟨-, hr0, hd⟩ := eqOk_parts hq
  have hf := form_of _ (right_formed hr0)
  have hok := toks_okT hf
  obtain ⟨n, d, fx, e⟩ := q
  dsimp only at hd hf hok
  rcases hd with ⟨rfl, hl⟩ | ⟨rfl, rfl⟩ | ⟨rfl, rfl⟩
  · have h0 : On ts i (nm n :: mk [61] :: (toks fx ++ kw wFby :: (toks e ++ mk [59] :: r))) := by simpa [eqT, delayT] using h
    have h2 := h0.step.step
    have hlf := literal_form hl
    have hpre : hsees (toks fx ++ kw wFby :: (toks e ++ mk [59] :: r)) wPre = false := by
      have hne := toks_ne hlf
      have hok := toks_okT hlf
      generalize toks fx = l at *
      cases l with
      | nil => exact absurd rfl hne
      | cons t l =>
        rw [List.all_cons, Bool.and_eq_true] at hok
        exact (okT_sees hok.1 _).2
    have h3 : On ts (i + 1 + 1 + (toks fx).length + 1) (toks e ++ mk [59] :: r) := h2.skip.step
    unfold eqP
    rw [h0.name]
    simp only
    rw [h0.step.need rfl, h2.sees, hpre, if_neg (by decide), firstP_some hl h2]
    simp only
    rw [expr_toks hf h3 (ends_semi _)]
    simp only
    rw [h3.skip.need rfl]
    simp only [eqT, delayT, if_true, List.length_cons, List.length_append, List.length_nil, Prod.mk.injEq, true_and]
    congr 1
    omega
  · have h0 : On ts i (nm n :: mk [61] :: kw wPre :: (toks e ++ mk [59] :: r)) := by simpa [eqT, delayT] using h
    have h2 := h0.step.step
    unfold eqP
    rw [h0.name]
    simp only
    rw [h0.step.need rfl, h2.sees, if_pos (by rfl), S_adv, expr_toks hf h2.step (ends_semi _)]
    simp only
    rw [h2.step.skip.need rfl]
    simp [eqT, delayT, S]
    omega
  · have h0 : On ts i (nm n :: mk [61] :: (toks e ++ mk [59] :: r)) := by simpa [eqT, delayT] using h
    have h2 := h0.step.step
    have hpre : hsees (toks e ++ mk [59] :: r) wPre = false := by
      have hne := toks_ne hf
      generalize toks e = l at *
      cases l with
      | nil => exact absurd rfl hne
      | cons t l =>
        rw [List.all_cons, Bool.and_eq_true] at hok
        exact (okT_sees hok.1 _).2
    unfold eqP
    rw [h0.name]
    simp only
    rw [h0.step.need rfl, h2.sees, hpre, if_neg (by decide), firstP_none hf h2]
    simp only
    rw [expr_toks hf h2 (ends_semi _)]
    simp only
    rw [h2.skip.need rfl]
    simp [eqT, delayT, S]
    omega
theorem eqsF_on (N : Int) : ∀ (f : Nat) (l : List Eqn) (i : Nat), l.all eqOk = true → ∀ r, On ts i (l.flatMap eqT ++ kw wTel :: r) → l.length < f → eqsF ts N f (S i) = (none, l, S (i + (l.flatMap eqT).length + 1))
  | 0, _, _, _, _, _, h => by omega
  | f + 1, [], i, _, r, ho, _ => by
    have h0 : On ts i (kw wTel :: r) := ho
    rw [eqsF, if_neg (by simp [S]), h0.sees, if_pos (by rfl)]
    rfl
  | f + 1, q :: l, i, hv, r, ho, hf => by
    rw [List.all_cons, Bool.and_eq_true] at hv
    rw [List.flatMap_cons, List.append_assoc] at ho
    have hd := eqP_on hv.1 ho
    have hr0 := (eqOk_parts hv.1).2.1
    have h4 := eqsF_on N f l (i + (eqT q).length) hv.2 r ho.skip (by simp at hf; omega)
    have hs : hsees (eqT q ++ (l.flatMap eqT ++ kw wTel :: r)) wTel = false := rfl
    rw [eqsF, if_neg (by simp [S]), ho.sees, hs, if_neg (by decide), hd]
    simp only
    rw [if_neg (by simp [S]), if_neg (by rw [hr0]; decide), h4]
    simp only [List.flatMap_cons, List.length_append, Prod.mk.injEq, true_and]
    congr 1
    omega
end
theorem parse_pgT {p : Pg} (h : whole p = true) (N : Int) : parseT (pgT p) N = (p, 0, 0) := by
  unfold whole at h
  simp only [Bool.and_eq_true] at h
  obtain ⟨⟨⟨⟨hn, hi⟩, ho⟩, hl⟩, he⟩ := h
  obtain ⟨pn, pi, po, pl, pe⟩ := p
  dsimp only at *
  generalize hts : pgT ⟨pn, pi, po, pl, pe⟩ = ts
  have a0 : On ts 0 (kw wNode :: nm pn :: mk [40] :: (declsT pi ++ mk [41] :: kw wReturns :: mk [40] :: (declsT po ++ mk [41] :: mk [59] ::
    ((if pl = [] then [] else [kw wVar]) ++ (pl.flatMap localT ++ kw wLet :: (pe.flatMap eqT ++ [kw wTel])))))) := by rw [← hts]; rfl
  have hlen := a0.len (Nat.zero_le _)
  simp only [List.length_cons, List.length_append, List.length_nil] at hlen
  have a2 := a0.step.step
  have a3 := a2.step.skip.step
  have a4 := a3.step
  have a5 := a4.step.skip.step
  have a6 := a5.step
  have a7 := a6
  rw [← List.append_assoc] at a7
  have a8 := a7.skip
  have a9 := a8.step
  have hh : headP ts ⟨0, false⟩ = (⟨pn, pi, po, pl, []⟩, S (1 + 1 + 1 + (declsT pi).length + 1 + 1 + 1 + (declsT po).length + 1 + 1 + ((if pl = [] then [] else [kw wVar]) ++ pl.flatMap localT).length + 1)) := by
    unfold headP
    have e0 : need ts ⟨0, false⟩ wNode = S 1 := a0.need rfl
    rw [e0, a0.step.name]
    simp only
    have e1 := declsP_on hi a2 (by omega)
    rw [show (0 + 1 + 1 : Nat) = 2 from rfl] at e1
    rw [show (1 + 1 : Nat) = 2 from rfl, e1]
    simp only
    rw [show (0 + 1 + 1 + 1 + (declsT pi).length + 1 : Nat) = 2 + (declsT pi).length + 2 by omega] at a3 a4 a5 a6 a7 a8 a9
    rw [a3.need rfl, declsP_on ho a4 (by omega)]
    simp only
    rw [show (2 + (declsT pi).length + 2 + 1 + 1 + (declsT po).length + 1 : Nat) = 2 + (declsT pi).length + 2 + 1 + (declsT po).length + 2 by omega] at a5 a6 a7 a8 a9
    rw [a5.need rfl, localsP_on hl a6 (by omega)]
    simp only
    rw [a8.need rfl]
    congr 2
    omega
  have hE := eqsF_on N (ts.length - (headP ts ⟨0, false⟩).2.at_ + 1) pe _ he [] a9 (by
    have := flat_len (g := eqT) (fun x => by simp [eqT]) pe
    rw [hh]
    simp only [S, List.length_append]
    omega)
  have hat : (headP ts ⟨0, false⟩).2 = S (0 + 1 + 1 + 1 + (declsT pi).length + 1 + 1 + 1 + (declsT po).length + 1 + 1 + ((if pl = [] then [] else [kw wVar]) ++ pl.flatMap localT).length + 1) := by
    rw [hh]
  unfold parseT eqsL
  rw [← hat] at hE
  rw [hE]
  simp only
  rw [if_neg (by
    rw [Bool.or_eq_true, decide_eq_true_eq]
    rintro (h | h)
    · cases h
    · simp only [S, List.length_append] at h hlen
      omega), hh]
end Go.Proofs.Ytilkilffkjhhbaa.Tr
