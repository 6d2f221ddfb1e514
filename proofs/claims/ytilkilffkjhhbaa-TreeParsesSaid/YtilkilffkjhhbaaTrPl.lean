/-
  Expressions and programs in plain Lean: when they are right, what their text is, and the parser over tokens. No program in sight.
  The parser in plain Lean, without fuel: what each rule comes to.
  The parser of programs in plain Lean.
  The text of an expression, kind by kind, and how long it is.
-/
import Derived.Test.YtilkilffkjhhbaaLexPlain
namespace Go.Proofs.Ytilkilffkjhhbaa.Tr
set_option maxRecDepth 20000
set_option linter.unusedVariables false
open Lx (Bs Tok)
/-- an expression: its kind, a number, a name, its parts -/
inductive Ex where
  | mk (kind n : Int) (name : Bs) (sub : List Ex)
def Ex.kind : Ex → Int | .mk k _ _ _ => k
def Ex.n : Ex → Int | .mk _ n _ _ => n
def Ex.name : Ex → Bs | .mk _ _ m _ => m
def Ex.sub : Ex → List Ex | .mk _ _ _ s => s
def Ex.zero : Ex := .mk 0 0 [] []
instance : Inhabited Ex := ⟨Ex.zero⟩
mutual
def size : Ex → Nat
  | .mk _ _ _ s => 1 + sizes s
def sizes : List Ex → Nat
  | [] => 0
  | x :: r => size x + sizes r
end
mutual
def depth : Ex → Nat
  | .mk _ _ _ s => depths s + 1
def depths : List Ex → Nat
  | [] => 0
  | x :: r => max (depth x) (depths r)
end
mutual
def same : Ex → Ex → Bool
  | .mk k n m s, .mk k' n' m' s' => k == k' && n == n' && m == m' && sames s s'
def sames : List Ex → List Ex → Bool
  | [], [] => true
  | x :: r, y :: t => same x y && sames r t
  | _, _ => false
end
theorem size_eq (k n : Int) (m : Bs) (s : List Ex) : size (.mk k n m s) = 1 + sizes s := by rw [size]
theorem sizes_nil : sizes [] = 0 := by rw [sizes]
theorem sizes_cons (x : Ex) (r : List Ex) : sizes (x :: r) = size x + sizes r := by rw [sizes]
theorem depth_eq (k n : Int) (m : Bs) (s : List Ex) : depth (.mk k n m s) = depths s + 1 := by rw [depth]
theorem depths_nil : depths [] = 0 := by rw [depths]
theorem depths_cons (x : Ex) (r : List Ex) : depths (x :: r) = max (depth x) (depths r) := by rw [depths]
theorem size_pos : ∀ x : Ex, 1 ≤ size x
  | .mk k n m s => by rw [size_eq]; omega
theorem size_mem {x : Ex} : ∀ {s : List Ex}, x ∈ s → size x ≤ sizes s
  | [], h => by cases h
  | y :: r, h => by
    rw [sizes_cons]
    rcases List.mem_cons.1 h with rfl | h
    · omega
    · have := size_mem h; omega
theorem depth_mem {x : Ex} : ∀ {s : List Ex}, x ∈ s → depth x ≤ depths s
  | [], h => by cases h
  | y :: r, h => by
    rw [depths_cons]
    rcases List.mem_cons.1 h with rfl | h
    · omega
    · have := depth_mem h; omega
theorem depths_le_sizes : ∀ s : List Ex, (∀ x ∈ s, depth x ≤ size x) → depths s ≤ sizes s
  | [], _ => by rw [depths_nil]; omega
  | x :: r, h => by
    rw [depths_cons, sizes_cons]
    have h1 := h x (by simp)
    have h2 := depths_le_sizes r fun y hy => h y (by simp [hy])
    omega
/-- what holds of an expression when it holds of its parts holds of all -/
theorem Ex.ind {P : Ex → Prop} (h : ∀ k n m s, (∀ x ∈ s, P x) → P (.mk k n m s)) : ∀ x, P x := by
  have key : ∀ (c : Nat) (x : Ex), size x ≤ c → P x := by
    intro c
    induction c with
    | zero => intro x hx; have := size_pos x; omega
    | succ c ih =>
      intro x hx
      obtain ⟨k, n, m, s⟩ := x
      refine h k n m s fun y hy => ih y ?_
      have := size_mem hy
      rw [size_eq] at hx
      omega
  exact fun x => key (size x) x (Nat.le_refl _)
theorem depth_le_size : ∀ x : Ex, depth x ≤ size x := by
  refine Ex.ind ?_
  intro k n m s ih
  rw [depth_eq, size_eq]
  have := depths_le_sizes s ih
  omega
theorem same_eq (k n : Int) (m : Bs) (s : List Ex) (k' n' : Int) (m' : Bs) (s' : List Ex) : same (.mk k n m s) (.mk k' n' m' s') = (k == k' && n == n' && m == m' && sames s s') := by rw [same]
theorem sames_cons (x y : Ex) (r t : List Ex) : sames (x :: r) (y :: t) = (same x y && sames r t) := by rw [sames]
theorem sames_nil : sames [] [] = true := by rw [sames]
theorem sames_len : ∀ (s t : List Ex), sames s t = true → s.length = t.length
  | [], [], _ => rfl
  | [], _ :: _, h => by rw [sames] at h <;> simp_all
  | _ :: _, [], h => by rw [sames] at h <;> simp_all
  | x :: r, y :: t, h => by
    rw [sames_cons, Bool.and_eq_true] at h
    have := sames_len r t h.2
    simp [this]
theorem same_iff : ∀ x y : Ex, same x y = true ↔ x = y := by
  have hl : ∀ (s : List Ex), (∀ x ∈ s, ∀ y, same x y = true ↔ x = y) → ∀ t, sames s t = true ↔ s = t := by
    intro s
    induction s with
    | nil =>
      intro _ t
      cases t with
      | nil => simp [sames_nil]
      | cons y t => constructor
                    · intro h; have := sames_len _ _ h; simp at this
                    · intro h; cases h
    | cons x r ih =>
      intro h t
      cases t with
      | nil => constructor
               · intro h; have := sames_len _ _ h; simp at this
               · intro h; cases h
      | cons y t =>
        rw [sames_cons, Bool.and_eq_true, h x (by simp) y, ih (fun z hz => h z (by simp [hz])) t]
        simp
  intro x
  refine Ex.ind (P := fun x => ∀ y, same x y = true ↔ x = y) ?_ x
  intro k n m s ih y
  obtain ⟨k', n', m', s'⟩ := y
  rw [same_eq, Bool.and_eq_true, Bool.and_eq_true, Bool.and_eq_true, hl s ih s']
  simp [and_assoc]
theorem same_refl (x : Ex) : same x x = true := (same_iff x x).2 rfl

/-- what a kind has: how many parts, from which number to which, a name? -/
def form (k : Int) : Option (Nat × Int × Int × Bool) :=
  if k = 1 then some (0, 0, 2147483647, false)
  else if k = 2 then some (0, 0, 1, false)
  else if k = 3 then some (0, 0, 0, true)
  else if k = 4 then some (1, 1, 2, false)
  else if k = 5 then some (2, 1, 16, false)
  else if k = 6 then some (3, 0, 0, false)
  else if k = 7 then some (2, 0, 0, false)
  else if k = 8 then some (1, 0, 0, true)
  else if k = 9 then some (1, 0, 0, true)
  else if k = 10 then some (2, 0, 0, true)
  else none
/-- an expression's own fields are those of its kind -/
def shape (k n : Int) (m : Bs) (c : Nat) : Bool :=
  match form k with
  | none => false
  | some (p, lo, hi, nm) => c == p && decide (lo ≤ n) && decide (n ≤ hi) && (if nm then Lx.isName m else m == [])
mutual
def formed : Ex → Bool
  | .mk k n m s => shape k n m s.length && formeds s
def formeds : List Ex → Bool
  | [] => true
  | x :: r => formed x && formeds r
end
theorem formed_eq (k n : Int) (m : Bs) (s : List Ex) : formed (.mk k n m s) = (shape k n m s.length && formeds s) := by rw [formed]
theorem formeds_nil : formeds [] = true := by rw [formeds]
theorem formeds_cons (x : Ex) (r : List Ex) : formeds (x :: r) = (formed x && formeds r) := by rw [formeds]
theorem formeds_mem {x : Ex} : ∀ {s : List Ex}, formeds s = true → x ∈ s → formed x = true
  | [], _, h => by cases h
  | y :: r, h, hx => by
    rw [formeds_cons, Bool.and_eq_true] at h
    rcases List.mem_cons.1 hx with rfl | hx
    · exact h.1
    · exact formeds_mem h.2 hx
/-- what is wrong of an expression -/
def right (x : Ex) : Int :=
  if 120 < size x then 3 else if 12 < depth x then 17 else if formed x then 0 else 4

def digitsF : Nat → Nat → Bs → Bs
  | 0, _, acc => acc
  | f + 1, n, acc => if n / 10 = 0 then UInt8.ofNat (48 + n % 10) :: acc else digitsF f (n / 10) (UInt8.ofNat (48 + n % 10) :: acc)
/-- a number as text -/
def digits (n : Int) : Bs := if n < 0 then 45 :: digitsF 10 n.natAbs [] else digitsF 10 n.natAbs []
/-- the opm of an operation of two values -/
def opm (o : Int) : Bs :=
  if o = 1 then [43] else if o = 2 then [45] else if o = 3 then [42] else if o = 4 then [47] else if o = 5 then [37]
  else if o = 6 then [60, 60] else if o = 7 then [62, 62] else if o = 8 then [38] else if o = 9 then [124] else if o = 10 then [94]
  else if o = 11 then [61] else if o = 12 then [60, 62] else if o = 13 then [60] else if o = 14 then [60, 61] else if o = 15 then [62] else if o = 16 then [62, 61]
  else []
/-- does a part stand without brackets? -/
def bare (k : Int) : Bool := k == 1 || k == 2 || k == 3 || k == 8 || k == 9
def sp : Bs := [32]
def wTrue : Bs := [116, 114, 117, 101]
def wFalse : Bs := [102, 97, 108, 115, 101]
def wNot : Bs := [110, 111, 116]
def wIf : Bs := [105, 102]
def wThen : Bs := [116, 104, 101, 110]
def wElse : Bs := [101, 108, 115, 101]
def wWhen : Bs := [119, 104, 101, 110]
def wUnless : Bs := [117, 110, 108, 101, 115, 115]
def wMerge : Bs := [109, 101, 114, 103, 101]
def wFby : Bs := [102, 98, 121]
def wPre : Bs := [112, 114, 101]
def wNode : Bs := [110, 111, 100, 101]
def wReturns : Bs := [114, 101, 116, 117, 114, 110, 115]
def wVar : Bs := [118, 97, 114]
def wLet : Bs := [108, 101, 116]
def wTel : Bs := [116, 101, 108]
def wInt : Bs := [105, 110, 116]
def wBool : Bs := [98, 111, 111, 108]
def arrow : Bs := [45, 62]
/-- an expression's text, of its parts' texts -/
def glue (k n : Int) (m : Bs) (l : List Bs) : Bs :=
  if k = 1 then digits n
  else if k = 2 then (if n = 0 then wFalse else wTrue)
  else if k = 4 then (if n = 2 then wNot ++ sp ++ l.getD 0 [] else [45] ++ l.getD 0 [])
  else if k = 5 then l.getD 0 [] ++ sp ++ opm n ++ sp ++ l.getD 1 []
  else if k = 6 then wIf ++ sp ++ l.getD 0 [] ++ sp ++ wThen ++ sp ++ l.getD 1 [] ++ sp ++ wElse ++ sp ++ l.getD 2 []
  else if k = 7 then l.getD 0 [] ++ sp ++ arrow ++ sp ++ l.getD 1 []
  else if k = 8 then l.getD 0 [] ++ sp ++ wWhen ++ sp ++ m
  else if k = 9 then l.getD 0 [] ++ sp ++ wUnless ++ sp ++ m
  else if k = 10 then wMerge ++ sp ++ m ++ sp ++ l.getD 0 [] ++ sp ++ l.getD 1 []
  else m
mutual
def text : Ex → Bs
  | .mk k n m s => glue k n m (texts (k == 6) s)
def texts (w : Bool) : List Ex → List Bs
  | [] => []
  | x :: r => (if w || bare x.kind then text x else [40] ++ text x ++ [41]) :: texts w r
end
def part (x : Ex) : Bs := if bare x.kind then text x else [40] ++ text x ++ [41]
theorem text_eq (k n : Int) (m : Bs) (s : List Ex) : text (.mk k n m s) = glue k n m (texts (k == 6) s) := by rw [text]
theorem texts_nil (w : Bool) : texts w [] = [] := by rw [texts]
theorem texts_cons (w : Bool) (x : Ex) (r : List Ex) : texts w (x :: r) = (if w || bare x.kind then text x else [40] ++ text x ++ [41]) :: texts w r := by rw [texts]
theorem texts_map : ∀ (w : Bool) (s : List Ex), texts w s = s.map (if w then text else part)
  | w, [] => by rw [texts_nil]; rfl
  | w, x :: r => by
    rw [texts_cons, texts_map w r, List.map_cons]
    cases w <;> simp [part]

/-- a variable, an equation, a program -/
structure Vr where
  name : Bs
  type : Int
  ck : Int
  cn : Bs
structure Eqn where
  name : Bs
  delay : Int
  first : Ex
  e : Ex
structure Pg where
  name : Bs
  ins : List Vr
  outs : List Vr
  locals : List Vr
  eqs : List Eqn
def Vr.zero : Vr := ⟨[], 0, 0, []⟩
def Eqn.zero : Eqn := ⟨[], 0, Ex.zero, Ex.zero⟩
def Pg.zero : Pg := ⟨[], [], [], [], []⟩
def sameVr (a b : Vr) : Bool := a.name == b.name && a.type == b.type && a.ck == b.ck && a.cn == b.cn
def sameVrs : List Vr → List Vr → Bool
  | [], [] => true
  | a :: r, b :: t => sameVr a b && sameVrs r t
  | _, _ => false
def sameEq (a b : Eqn) : Bool := a.name == b.name && a.delay == b.delay && same a.first b.first && same a.e b.e
def sameEqs : List Eqn → List Eqn → Bool
  | [], [] => true
  | a :: r, b :: t => sameEq a b && sameEqs r t
  | _, _ => false
def samePg (a b : Pg) : Bool := a.name == b.name && sameVrs a.ins b.ins && sameVrs a.outs b.outs && sameVrs a.locals b.locals && sameEqs a.eqs b.eqs
theorem sameVr_refl (a : Vr) : sameVr a a = true := by simp [sameVr]
theorem sameVrs_refl : ∀ l, sameVrs l l = true
  | [] => rfl
  | a :: r => by rw [sameVrs, sameVr_refl, sameVrs_refl r]; rfl
theorem sameEq_refl (a : Eqn) : sameEq a a = true := by simp [sameEq, same_refl]
theorem sameEqs_refl : ∀ l, sameEqs l l = true
  | [] => rfl
  | a :: r => by rw [sameEqs, sameEq_refl, sameEqs_refl r]; rfl
theorem samePg_refl (a : Pg) : samePg a a = true := by simp [samePg, sameVrs_refl, sameEqs_refl]

/-- is an expression a literal? -/
def literal (x : Ex) : Bool :=
  right x == 0 && (x.kind == 1 || x.kind == 2 || (x.kind == 4 && x.n == 1 && (x.sub.headD Ex.zero).kind == 1))
def varOk (own : Bool) (v : Vr) : Bool :=
  Lx.isName v.name && (v.type == 1 || v.type == 2) && ((v.ck == 0 && v.cn == []) || (own && (v.ck == 1 || v.ck == 2) && Lx.isName v.cn))
def eqOk (q : Eqn) : Bool :=
  Lx.isName q.name && right q.e == 0 && (if q.delay = 1 then literal q.first else (q.delay == 0 || q.delay == 2) && same q.first Ex.zero)
def whole (p : Pg) : Bool := Lx.isName p.name && p.ins.all (varOk false) && p.outs.all (varOk false) && p.locals.all (varOk true) && p.eqs.all eqOk
def declared (v : Vr) : Bs :=
  v.name ++ (if v.type = 2 then [32, 58, 32, 98, 111, 111, 108] else [32, 58, 32, 105, 110, 116]) ++
    (if v.ck = 1 then [32] ++ wWhen ++ [32] ++ v.cn else if v.ck = 2 then [32] ++ wUnless ++ [32] ++ v.cn else [])
def decls : List Vr → Bs
  | [] => []
  | [v] => declared v
  | v :: u :: r => declared v ++ [59, 32] ++ decls (u :: r)
def localText (v : Vr) : Bs := [32, 32] ++ declared v ++ [59, 10]
def eqText (q : Eqn) : Bs :=
  [32, 32] ++ q.name ++ [32, 61, 32] ++ (if q.delay = 1 then text q.first ++ [32] ++ wFby ++ [32] else if q.delay = 2 then wPre ++ [32] else []) ++ text q.e ++ [59, 10]
def pgText (p : Pg) : Bs :=
  wNode ++ [32] ++ p.name ++ [32] ++ [40] ++ decls p.ins ++ [41] ++ [32] ++ wReturns ++ [32] ++ [40] ++ decls p.outs ++ [41] ++ [59, 10] ++
    (if p.locals = [] then [] else wVar ++ [10]) ++ p.locals.flatMap localText ++ wLet ++ [10] ++ p.eqs.flatMap eqText ++ wTel ++ [10]
/-- a program as text, or what is wrong -/
def print (p : Pg) : Bs × Int := if whole p then (if 4096 < (pgText p).length then ([], 3) else (pgText p, 0)) else ([], 4)

/-! the parser over tokens -/
structure St where
  at_ : Nat
  bad : Bool
section
variable (ts : List Tok)
def sees (s : St) (m : Bs) : Bool :=
  match s.bad, ts[s.at_]? with
  | false, some t => (t.kind == 3 || t.kind == 4) && t.text == m
  | _, _ => false
def St.adv (s : St) : St := ⟨s.at_ + 1, s.bad⟩
def St.fail (s : St) : St := ⟨s.at_, true⟩
def need (s : St) (m : Bs) : St := if sees ts s m then s.adv else s.fail
def isKind (s : St) (k : Int) : Bool :=
  match s.bad, ts[s.at_]? with
  | false, some t => t.kind == k
  | _, _ => false
def tok (s : St) : Tok := ts.getD s.at_ ⟨0, [], 0, 0⟩
def token (s : St) (k : Int) : Tok × St := if isKind ts s k then (tok ts s, s.adv) else (⟨0, [], 0, 0⟩, s.fail)
def name (s : St) : Bs × St := ((token ts s 1).1.text, (token ts s 1).2)
def ops (n : Nat) : List Int :=
  if n = 0 then [9, 10] else if n = 1 then [8] else if n = 2 then [11, 12, 13, 14, 15, 16] else if n = 3 then [6, 7] else if n = 4 then [1, 2] else [3, 4, 5]
def among (s : St) : List Int → Int
  | [] => 0
  | o :: r => if sees ts s (opm o) then o else among s r
inductive Call where
  | expr | level (n : Nat) | loop (n : Nat) (x : Ex) | unary | factor | floop (x : Ex) | atom
def bin (o : Int) (a b : Ex) : Ex := .mk 5 o [] [a, b]
/-- the parser with fuel -/
def run : Nat → Call → St → Ex × St
  | 0, _, s => (Ex.zero, s)
  | f + 1, .expr, s =>
    let a := run f (.level 0) s
    if sees ts a.2 arrow then
      let b := run f .expr a.2.adv
      (.mk 7 0 [] [a.1, b.1], b.2)
    else a
  | f + 1, .level n, s =>
    if n = 6 then run f .unary s
    else
      let a := run f (.level (n + 1)) s
      run f (.loop n a.1) a.2
  | f + 1, .loop n x, s =>
    if among ts s (ops n) = 0 then (x, s)
    else
      let b := run f (.level (n + 1)) s.adv
      if n = 2 then (bin (among ts s (ops n)) x b.1, b.2)
      else run f (.loop n (bin (among ts s (ops n)) x b.1)) b.2
  | f + 1, .unary, s =>
    if sees ts s [45] then
      let b := run f .unary s.adv
      (.mk 4 1 [] [b.1], b.2)
    else if sees ts s wNot then
      let b := run f .unary s.adv
      (.mk 4 2 [] [b.1], b.2)
    else run f .factor s
  | f + 1, .factor, s =>
    let a := run f .atom s
    run f (.floop a.1) a.2
  | f + 1, .floop x, s =>
    if sees ts s wWhen then
      let m := name ts s.adv
      run f (.floop (.mk 8 0 m.1 [x])) m.2
    else if sees ts s wUnless then
      let m := name ts s.adv
      run f (.floop (.mk 9 0 m.1 [x])) m.2
    else (x, s)
  | f + 1, .atom, s =>
    if isKind ts s 2 then (.mk 1 (tok ts s).n [] [], s.adv)
    else if sees ts s wTrue then (.mk 2 1 [] [], s.adv)
    else if sees ts s wFalse then (.mk 2 0 [] [], s.adv)
    else if sees ts s [40] then
      let a := run f .expr s.adv
      (a.1, need ts a.2 [41])
    else if sees ts s wIf then
      let c := run f .expr s.adv
      let a := run f .expr (need ts c.2 wThen)
      let b := run f .expr (need ts a.2 wElse)
      (.mk 6 0 [] [c.1, a.1, b.1], b.2)
    else if sees ts s wMerge then
      let m := name ts s.adv
      let a := run f .factor m.2
      let b := run f .factor a.2
      (.mk 10 0 m.1 [a.1, b.1], b.2)
    else
      let m := name ts s
      (.mk 3 0 m.1 [], m.2)
def rank : Call → Nat
  | .expr => 11
  | .level n => 10 - n
  | .loop _ _ => 0
  | .unary => 3
  | .factor => 2
  | .floop _ => 0
  | .atom => 1
/-- so much fuel is enough -/
def fuel (c : Call) (s : St) : Nat := 12 * (ts.length - s.at_) + rank c + 1
/-- the parser -/
def P (c : Call) (s : St) : Ex × St := run ts (fuel ts c s) c s
end
end Go.Proofs.Ytilkilffkjhhbaa.Tr
namespace Go.Proofs.Ytilkilffkjhhbaa.Tr
set_option maxRecDepth 20000
set_option linter.unusedVariables false
open Lx (Bs Tok)
section
variable {ts : List Tok}
theorem sees_lt {s : St} {m : Bs} (h : sees ts s m = true) : s.bad = false ∧ s.at_ < ts.length := by
  unfold sees at h
  rcases hb : s.bad with _ | _
  · rcases ht : ts[s.at_]? with _ | t
    · rw [hb, ht] at h; simp at h
    · exact ⟨rfl, (List.getElem?_eq_some_iff.1 ht).1⟩
  · rw [hb] at h; simp at h
theorem isKind_lt {s : St} {k : Int} (h : isKind ts s k = true) : s.bad = false ∧ s.at_ < ts.length := by
  unfold isKind at h
  rcases hb : s.bad with _ | _
  · rcases ht : ts[s.at_]? with _ | t
    · rw [hb, ht] at h; simp at h
    · exact ⟨rfl, (List.getElem?_eq_some_iff.1 ht).1⟩
  · rw [hb] at h; simp at h
theorem adv_at (s : St) : s.adv.at_ = s.at_ + 1 := rfl
theorem fail_at (s : St) : s.fail.at_ = s.at_ := rfl
theorem need_at (s : St) (m : Bs) : s.at_ ≤ (need ts s m).at_ := by unfold need; split <;> simp [St.adv, St.fail]
theorem token_at (s : St) (k : Int) : s.at_ ≤ (token ts s k).2.at_ := by unfold token; split <;> simp [St.adv, St.fail]
theorem name_at (s : St) : s.at_ ≤ (name ts s).2.at_ := token_at s 1
theorem among_lt : ∀ (l : List Int) (s : St), among ts s l ≠ 0 → s.bad = false ∧ s.at_ < ts.length
  | [], s, h => by simp [among] at h
  | o :: r, s, h => by
    unfold among at h
    split at h
    · rename_i hs; exact sees_lt hs
    · exact among_lt r s h
theorem run_at : ∀ (f : Nat) (c : Call) (s : St), s.at_ ≤ (run ts f c s).2.at_ := by
  intro f
  induction f with
  | zero => intro c s; cases c <;> exact Nat.le_refl _
  | succ f ih =>
    intro c s
    cases c with
    | expr =>
      rw [run]
      split
      · have h1 := ih (.level 0) s
        have h2 := ih .expr (run ts f (.level 0) s).2.adv
        rw [adv_at] at h2
        simp only; omega
      · exact ih _ _
    | level n =>
      rw [run]
      split
      · exact ih _ _
      · exact Nat.le_trans (ih (.level (n + 1)) s) (ih _ _)
    | loop n x =>
      rw [run]
      split
      · exact Nat.le_refl _
      · have h2 := ih (.level (n + 1)) s.adv
        rw [adv_at] at h2
        simp only
        split
        · simp only; omega
        · exact Nat.le_trans (by omega) (ih _ _)
    | unary =>
      rw [run]
      split
      · have h2 := ih .unary s.adv
        rw [adv_at] at h2
        simp only; omega
      · split
        · have h2 := ih .unary s.adv
          rw [adv_at] at h2
          simp only; omega
        · exact ih _ _
    | factor =>
      rw [run]
      exact Nat.le_trans (ih .atom s) (ih _ _)
    | floop x =>
      rw [run]
      have h1 := name_at (ts := ts) s.adv
      rw [adv_at] at h1
      split
      · exact Nat.le_trans (by omega) (ih _ _)
      · split
        · exact Nat.le_trans (by omega) (ih _ _)
        · exact Nat.le_refl _
    | atom =>
      rw [run]
      split
      · simp [adv_at]
      split
      · simp [adv_at]
      split
      · simp [adv_at]
      split
      · have h1 := ih .expr s.adv
        have h2 := need_at (ts := ts) (run ts f .expr s.adv).2 [41]
        rw [adv_at] at h1
        simp only; omega
      split
      · have h1 := ih .expr s.adv
        have h2 := need_at (ts := ts) (run ts f .expr s.adv).2 wThen
        have h3 := ih .expr (need ts (run ts f .expr s.adv).2 wThen)
        have h4 := need_at (ts := ts) (run ts f .expr (need ts (run ts f .expr s.adv).2 wThen)).2 wElse
        have h5 := ih .expr (need ts (run ts f .expr (need ts (run ts f .expr s.adv).2 wThen)).2 wElse)
        rw [adv_at] at h1
        simp only; omega
      split
      · have h1 := name_at (ts := ts) s.adv
        have h2 := ih .factor (name ts s.adv).2
        have h3 := ih .factor (run ts f .factor (name ts s.adv).2).2
        rw [adv_at] at h1
        simp only; omega
      · exact name_at s
def Call.ok : Call → Prop
  | .level n => n ≤ 6
  | .loop n _ => n ≤ 5
  | _ => True
theorem run_fuel : ∀ (m : Nat) (c : Call) (s : St), c.ok → fuel ts c s ≤ m → ∀ f g, fuel ts c s ≤ f → fuel ts c s ≤ g → run ts f c s = run ts g c s := by
  intro m
  induction m with
  | zero => intro c s _ h; unfold fuel at h; omega
  | succ m ih =>
    intro c s ok hm f g hf hg
    obtain ⟨f, rfl⟩ : ∃ f', f = f' + 1 := ⟨f - 1, by unfold fuel at hf; omega⟩
    obtain ⟨g, rfl⟩ : ∃ g', g = g' + 1 := ⟨g - 1, by unfold fuel at hg; omega⟩
    have step : ∀ (c' : Call) (s' : St), c'.ok → fuel ts c' s' + 1 ≤ fuel ts c s → run ts f c' s' = run ts g c' s' := fun c' s' ok' h => ih c' s' ok' (by omega) f g (by omega) (by omega)
    cases c with
    | expr =>
      have e1 := step (.level 0) s (Nat.zero_le _) (by simp [fuel, rank])
      rw [run, run]
      simp only [e1]
      by_cases h : sees ts (run ts g (.level 0) s).2 arrow = true
      · have h1 := (sees_lt h).2
        have h2 := run_at (ts := ts) g (.level 0) s
        have e2 := step .expr (run ts g (.level 0) s).2.adv trivial (by simp only [fuel, rank, adv_at]; omega)
        rw [if_pos h, if_pos h, e2]
      · rw [if_neg h, if_neg h]
    | level n =>
      have hn : n ≤ 6 := ok
      rw [run, run]
      by_cases h6 : n = 6
      · rw [if_pos h6, if_pos h6]
        exact step .unary s trivial (by subst h6; simp [fuel, rank])
      · have e1 := step (.level (n + 1)) s (show n + 1 ≤ 6 by omega) (by simp only [fuel, rank]; omega)
        rw [if_neg h6, if_neg h6]
        simp only [e1]
        have h2 := run_at (ts := ts) g (.level (n + 1)) s
        exact step _ _ (show n ≤ 5 by omega) (by simp only [fuel, rank]; omega)
    | loop n x =>
      have hn : n ≤ 5 := ok
      rw [run, run]
      by_cases h : among ts s (ops n) = 0
      · rw [if_pos h, if_pos h]
      · have h1 := (among_lt _ _ h).2
        have e1 := step (.level (n + 1)) s.adv (show n + 1 ≤ 6 by omega) (by simp only [fuel, rank, adv_at]; omega)
        have h2 := run_at (ts := ts) g (.level (n + 1)) s.adv
        rw [adv_at] at h2
        rw [if_neg h, if_neg h]
        simp only [e1]
        by_cases h3 : n = 2
        · rw [if_pos h3, if_pos h3]
        · rw [if_neg h3, if_neg h3]
          exact step _ _ (show n ≤ 5 from hn) (by simp only [fuel, rank]; omega)
    | unary =>
      rw [run, run]
      by_cases h : sees ts s [45] = true
      · have h1 := (sees_lt h).2
        have e1 := step .unary s.adv trivial (by simp only [fuel, rank, adv_at]; omega)
        rw [if_pos h, if_pos h, e1]
      · rw [if_neg h, if_neg h]
        by_cases h' : sees ts s wNot = true
        · have h1 := (sees_lt h').2
          have e1 := step .unary s.adv trivial (by simp only [fuel, rank, adv_at]; omega)
          rw [if_pos h', if_pos h', e1]
        · rw [if_neg h', if_neg h']
          exact step .factor s trivial (by simp [fuel, rank])
    | factor =>
      have e1 := step .atom s trivial (by simp [fuel, rank])
      have h2 := run_at (ts := ts) g .atom s
      rw [run, run]
      simp only [e1]
      exact step _ _ trivial (by simp only [fuel, rank]; omega)
    | floop x =>
      rw [run, run]
      have h2 := name_at (ts := ts) s.adv
      rw [adv_at] at h2
      by_cases h : sees ts s wWhen = true
      · have h1 := (sees_lt h).2
        rw [if_pos h, if_pos h]
        exact step _ _ trivial (by simp only [fuel, rank]; omega)
      · rw [if_neg h, if_neg h]
        by_cases h' : sees ts s wUnless = true
        · have h1 := (sees_lt h').2
          rw [if_pos h', if_pos h']
          exact step _ _ trivial (by simp only [fuel, rank]; omega)
        · rw [if_neg h', if_neg h']
    | atom =>
      rw [run, run]
      have far : ∀ s' : St, s.at_ < ts.length → s.at_ + 1 ≤ s'.at_ → run ts f .expr s' = run ts g .expr s' := fun s' h1 h2 => step .expr s' trivial (by simp only [fuel, rank]; omega)
      have farf : ∀ s' : St, s.at_ < ts.length → s.at_ + 1 ≤ s'.at_ → run ts f .factor s' = run ts g .factor s' := fun s' h1 h2 => step .factor s' trivial (by simp only [fuel, rank]; omega)
      by_cases h0 : isKind ts s 2 = true
      · rw [if_pos h0, if_pos h0]
      rw [if_neg h0, if_neg h0]
      by_cases h1 : sees ts s wTrue = true
      · rw [if_pos h1, if_pos h1]
      rw [if_neg h1, if_neg h1]
      by_cases h2 : sees ts s wFalse = true
      · rw [if_pos h2, if_pos h2]
      rw [if_neg h2, if_neg h2]
      by_cases h3 : sees ts s [40] = true
      · have hl := (sees_lt h3).2
        rw [if_pos h3, if_pos h3, far s.adv hl (Nat.le_refl _)]
      rw [if_neg h3, if_neg h3]
      by_cases h4 : sees ts s wIf = true
      · have hl := (sees_lt h4).2
        rw [if_pos h4, if_pos h4]
        have a1 := far s.adv hl (Nat.le_refl _)
        have g1 := run_at (ts := ts) g .expr s.adv
        have n1 := need_at (ts := ts) (run ts g .expr s.adv).2 wThen
        rw [adv_at] at g1
        have a2 := far (need ts (run ts g .expr s.adv).2 wThen) hl (by omega)
        have g2 := run_at (ts := ts) g .expr (need ts (run ts g .expr s.adv).2 wThen)
        have n2 := need_at (ts := ts) (run ts g .expr (need ts (run ts g .expr s.adv).2 wThen)).2 wElse
        have a3 := far (need ts (run ts g .expr (need ts (run ts g .expr s.adv).2 wThen)).2 wElse) hl (by omega)
        simp only [a1, a2, a3]
      rw [if_neg h4, if_neg h4]
      by_cases h5 : sees ts s wMerge = true
      · have hl := (sees_lt h5).2
        rw [if_pos h5, if_pos h5]
        have n1 := name_at (ts := ts) s.adv
        rw [adv_at] at n1
        have a1 := farf (name ts s.adv).2 hl n1
        have g1 := run_at (ts := ts) g .factor (name ts s.adv).2
        have a2 := farf (run ts g .factor (name ts s.adv).2).2 hl (by omega)
        simp only [a1, a2]
      · rw [if_neg h5, if_neg h5]
theorem run_P {c : Call} {s : St} (ok : c.ok) {f : Nat} (h : fuel ts c s ≤ f) : run ts f c s = P ts c s := run_fuel _ c s ok (Nat.le_refl _) _ _ h (Nat.le_refl _)
theorem P_at (c : Call) (s : St) : s.at_ ≤ (P ts c s).2.at_ := run_at _ _ _
theorem P_expr (s : St) : P ts .expr s = if sees ts (P ts (.level 0) s).2 arrow = true then (.mk 7 0 [] [(P ts (.level 0) s).1, (P ts .expr (P ts (.level 0) s).2.adv).1], (P ts .expr (P ts (.level 0) s).2.adv).2) else P ts (.level 0) s := by
  have e1 : run ts (12 * (ts.length - s.at_) + 11) (.level 0) s = P ts (.level 0) s := run_P (Nat.zero_le _) (by simp [fuel, rank])
  show run ts (12 * (ts.length - s.at_) + 11 + 1) .expr s = _
  rw [run]
  simp only [e1]
  by_cases h : sees ts (P ts (.level 0) s).2 arrow = true
  · have h1 := (sees_lt h).2
    have h2 := P_at (ts := ts) (.level 0) s
    rw [if_pos h, if_pos h, run_P (by exact trivial) (by simp only [fuel, rank, adv_at]; omega)]
  · rw [if_neg h, if_neg h]
theorem P_six (s : St) : P ts (.level 6) s = P ts .unary s := by
  show run ts (12 * (ts.length - s.at_) + 4 + 1) (.level 6) s = _
  rw [run, if_pos rfl]
  exact run_P (by exact trivial) (by simp [fuel, rank])
theorem P_level {n : Nat} (hn : n ≤ 5) (s : St) : P ts (.level n) s = P ts (.loop n (P ts (.level (n + 1)) s).1) (P ts (.level (n + 1)) s).2 := by
  have e1 : run ts (12 * (ts.length - s.at_) + (10 - n)) (.level (n + 1)) s = P ts (.level (n + 1)) s := run_P (by show n + 1 ≤ 6; omega) (by simp only [fuel, rank]; omega)
  show run ts (12 * (ts.length - s.at_) + (10 - n) + 1) (.level n) s = _
  rw [run, if_neg (by omega)]
  simp only [e1]
  have h2 := P_at (ts := ts) (.level (n + 1)) s
  exact run_P (by exact hn) (by simp only [fuel, rank]; omega)
theorem P_loop_end {n : Nat} {x : Ex} {s : St} (h : among ts s (ops n) = 0) : P ts (.loop n x) s = (x, s) := by
  show run ts (12 * (ts.length - s.at_) + 1) (.loop n x) s = _
  rw [run, if_pos h]
theorem P_loop {n : Nat} (hn : n ≤ 5) {x : Ex} {s : St} (h : among ts s (ops n) ≠ 0) : P ts (.loop n x) s =
    if n = 2 then (bin (among ts s (ops n)) x (P ts (.level (n + 1)) s.adv).1, (P ts (.level (n + 1)) s.adv).2) else P ts (.loop n (bin (among ts s (ops n)) x (P ts (.level (n + 1)) s.adv).1)) (P ts (.level (n + 1)) s.adv).2 := by
  have h1 := (among_lt _ _ h).2
  have h2 := P_at (ts := ts) (.level (n + 1)) s.adv
  rw [adv_at] at h2
  have e1 : run ts (12 * (ts.length - s.at_)) (.level (n + 1)) s.adv = P ts (.level (n + 1)) s.adv := run_P (by show n + 1 ≤ 6; omega) (by simp only [fuel, rank, adv_at]; omega)
  show run ts (12 * (ts.length - s.at_) + 1) (.loop n x) s = _
  rw [run, if_neg h]
  simp only [e1]
  split
  · rfl
  · exact run_P (by exact hn) (by simp only [fuel, rank]; omega)
theorem P_unary (s : St) : P ts .unary s = if sees ts s [45] = true then (.mk 4 1 [] [(P ts .unary s.adv).1], (P ts .unary s.adv).2)
    else if sees ts s wNot = true then (.mk 4 2 [] [(P ts .unary s.adv).1], (P ts .unary s.adv).2) else P ts .factor s := by
  show run ts (12 * (ts.length - s.at_) + 3 + 1) .unary s = _
  rw [run]
  by_cases h : sees ts s [45] = true
  · have h1 := (sees_lt h).2
    rw [if_pos h, if_pos h, run_P (by exact trivial) (by simp only [fuel, rank, adv_at]; omega)]
  · rw [if_neg h, if_neg h]
    by_cases h' : sees ts s wNot = true
    · have h1 := (sees_lt h').2
      rw [if_pos h', if_pos h', run_P (by exact trivial) (by simp only [fuel, rank, adv_at]; omega)]
    · rw [if_neg h', if_neg h']
      exact run_P (by exact trivial) (by simp [fuel, rank])
theorem P_factor (s : St) : P ts .factor s = P ts (.floop (P ts .atom s).1) (P ts .atom s).2 := by
  have e1 : run ts (12 * (ts.length - s.at_) + 2) .atom s = P ts .atom s := run_P (by exact trivial) (by simp [fuel, rank])
  have h2 := P_at (ts := ts) .atom s
  show run ts (12 * (ts.length - s.at_) + 2 + 1) .factor s = _
  rw [run]
  simp only [e1]
  exact run_P (by exact trivial) (by simp only [fuel, rank]; omega)
theorem P_floop (x : Ex) (s : St) : P ts (.floop x) s = if sees ts s wWhen = true then P ts (.floop (.mk 8 0 (name ts s.adv).1 [x])) (name ts s.adv).2
    else if sees ts s wUnless = true then P ts (.floop (.mk 9 0 (name ts s.adv).1 [x])) (name ts s.adv).2 else (x, s) := by
  have h2 := name_at (ts := ts) s.adv
  rw [adv_at] at h2
  show run ts (12 * (ts.length - s.at_) + 1) (.floop x) s = _
  rw [run]
  by_cases h : sees ts s wWhen = true
  · have h1 := (sees_lt h).2
    rw [if_pos h, if_pos h]
    exact run_P (by exact trivial) (by simp only [fuel, rank]; omega)
  · rw [if_neg h, if_neg h]
    by_cases h' : sees ts s wUnless = true
    · have h1 := (sees_lt h').2
      rw [if_pos h', if_pos h']
      exact run_P (by exact trivial) (by simp only [fuel, rank]; omega)
    · rw [if_neg h', if_neg h']
theorem P_atom (s : St) : P ts .atom s =
    if isKind ts s 2 = true then (.mk 1 (tok ts s).n [] [], s.adv)
    else if sees ts s wTrue = true then (.mk 2 1 [] [], s.adv)
    else if sees ts s wFalse = true then (.mk 2 0 [] [], s.adv)
    else if sees ts s [40] = true then ((P ts .expr s.adv).1, need ts (P ts .expr s.adv).2 [41])
    else if sees ts s wIf = true then
      (.mk 6 0 [] [(P ts .expr s.adv).1, (P ts .expr (need ts (P ts .expr s.adv).2 wThen)).1, (P ts .expr (need ts (P ts .expr (need ts (P ts .expr s.adv).2 wThen)).2 wElse)).1],
        (P ts .expr (need ts (P ts .expr (need ts (P ts .expr s.adv).2 wThen)).2 wElse)).2)
    else if sees ts s wMerge = true then
      (.mk 10 0 (name ts s.adv).1 [(P ts .factor (name ts s.adv).2).1, (P ts .factor (P ts .factor (name ts s.adv).2).2).1], (P ts .factor (P ts .factor (name ts s.adv).2).2).2)
    else (.mk 3 0 (name ts s).1 [], (name ts s).2) := by
  have far : ∀ s' : St, s.at_ < ts.length → s.at_ + 1 ≤ s'.at_ → run ts (12 * (ts.length - s.at_) + 1) .expr s' = P ts .expr s' := fun s' h1 h2 => run_P (by exact trivial) (by simp only [fuel, rank]; omega)
  have farf : ∀ s' : St, s.at_ < ts.length → s.at_ + 1 ≤ s'.at_ → run ts (12 * (ts.length - s.at_) + 1) .factor s' = P ts .factor s' := fun s' h1 h2 => run_P (by exact trivial) (by simp only [fuel, rank]; omega)
  show run ts (12 * (ts.length - s.at_) + 1 + 1) .atom s = _
  rw [run]
  by_cases h0 : isKind ts s 2 = true
  · rw [if_pos h0, if_pos h0]
  rw [if_neg h0, if_neg h0]
  by_cases h1 : sees ts s wTrue = true
  · rw [if_pos h1, if_pos h1]
  rw [if_neg h1, if_neg h1]
  by_cases h2 : sees ts s wFalse = true
  · rw [if_pos h2, if_pos h2]
  rw [if_neg h2, if_neg h2]
  by_cases h3 : sees ts s [40] = true
  · have hl := (sees_lt h3).2
    rw [if_pos h3, if_pos h3, far s.adv hl (Nat.le_refl _)]
  rw [if_neg h3, if_neg h3]
  by_cases h4 : sees ts s wIf = true
  · have hl := (sees_lt h4).2
    rw [if_pos h4, if_pos h4]
    have a1 := far s.adv hl (Nat.le_refl _)
    have g1 := P_at (ts := ts) .expr s.adv
    have n1 := need_at (ts := ts) (P ts .expr s.adv).2 wThen
    rw [adv_at] at g1
    have a2 := far (need ts (P ts .expr s.adv).2 wThen) hl (by omega)
    have g2 := P_at (ts := ts) .expr (need ts (P ts .expr s.adv).2 wThen)
    have n2 := need_at (ts := ts) (P ts .expr (need ts (P ts .expr s.adv).2 wThen)).2 wElse
    have a3 := far (need ts (P ts .expr (need ts (P ts .expr s.adv).2 wThen)).2 wElse) hl (by omega)
    simp only [a1, a2, a3]
  rw [if_neg h4, if_neg h4]
  by_cases h5 : sees ts s wMerge = true
  · have hl := (sees_lt h5).2
    rw [if_pos h5, if_pos h5]
    have n1 := name_at (ts := ts) s.adv
    rw [adv_at] at n1
    have a1 := farf (name ts s.adv).2 hl n1
    have g1 := P_at (ts := ts) .factor (name ts s.adv).2
    have a2 := farf (P ts .factor (name ts s.adv).2).2 hl (by omega)
    simp only [a1, a2]
  · rw [if_neg h5, if_neg h5]
end
end Go.Proofs.Ytilkilffkjhhbaa.Tr
namespace Go.Proofs.Ytilkilffkjhhbaa.Tr
set_option maxRecDepth 20000
set_option linter.unusedVariables false
open Lx (Bs Tok)
section
variable (ts : List Tok)
/-- the place of the next token -/
def plc (s : St) (N : Int) : Int := if s.at_ < ts.length then (ts.getD s.at_ ⟨0, [], 0, 0⟩).at_ else N
def declP (s : St) : Vr × St :=
  if sees ts (need ts (name ts s).2 [58]) wBool then (⟨(name ts s).1, 2, 0, []⟩, (need ts (name ts s).2 [58]).adv)
  else (⟨(name ts s).1, 1, 0, []⟩, need ts (need ts (name ts s).2 [58]) wInt)
def declsF : Nat → St → List Vr × St
  | 0, s => ([], s)
  | f + 1, s => if sees ts (declP ts s).2 [59] then ((declP ts s).1 :: (declsF f (declP ts s).2.adv).1, (declsF f (declP ts s).2.adv).2) else ([(declP ts s).1], need ts (declP ts s).2 [41])
def declsL (s : St) : List Vr × St := declsF ts (ts.length - s.at_ + 1) s
def declsP (s : St) : List Vr × St := if sees ts (need ts s [40]) [41] then ([], (need ts s [40]).adv) else declsL ts (need ts s [40])
def ownP (s : St) : Vr × St :=
  if sees ts (declP ts s).2 wWhen then ({ (declP ts s).1 with ck := 1, cn := (name ts (declP ts s).2.adv).1 }, need ts (name ts (declP ts s).2.adv).2 [59])
  else if sees ts (declP ts s).2 wUnless then ({ (declP ts s).1 with ck := 2, cn := (name ts (declP ts s).2.adv).1 }, need ts (name ts (declP ts s).2.adv).2 [59])
  else ((declP ts s).1, need ts (declP ts s).2 [59])
def ownsF : Nat → St → List Vr × St
  | 0, s => ([], s)
  | f + 1, s => if (ownP ts s).2.bad || sees ts (ownP ts s).2 wLet then ([(ownP ts s).1], (ownP ts s).2) else ((ownP ts s).1 :: (ownsF f (ownP ts s).2).1, (ownsF f (ownP ts s).2).2)
def ownsL (s : St) : List Vr × St := ownsF ts (ts.length - s.at_ + 1) s
/-- a literal with fby behind it -/
def litP (s : St) (m : Bool) (x : Ex) : Option (Ex × St) := if sees ts s wFby then some (if m then .mk 4 1 [] [x] else x, s.adv) else none
def firstP (s : St) : Option (Ex × St) :=
  if sees ts s [45] then
    (if isKind ts s.adv 2 then litP ts s.adv.adv true (.mk 1 (tok ts s.adv).n [] []) else none)
  else if isKind ts s 2 then litP ts s.adv false (.mk 1 (tok ts s).n [] [])
  else if sees ts s wTrue then litP ts s.adv false (.mk 2 1 [] [])
  else if sees ts s wFalse then litP ts s.adv false (.mk 2 0 [] [])
  else none
def eqP (s : St) : Eqn × St :=
  if sees ts (need ts (name ts s).2 [61]) wPre then
    (⟨(name ts s).1, 2, Ex.zero, (P ts .expr (need ts (name ts s).2 [61]).adv).1⟩, need ts (P ts .expr (need ts (name ts s).2 [61]).adv).2 [59])
  else match firstP ts (need ts (name ts s).2 [61]) with
    | some (x, s2) => (⟨(name ts s).1, 1, x, (P ts .expr s2).1⟩, need ts (P ts .expr s2).2 [59])
    | none => (⟨(name ts s).1, 0, Ex.zero, (P ts .expr (need ts (name ts s).2 [61])).1⟩, need ts (P ts .expr (need ts (name ts s).2 [61])).2 [59])
def localsP (s : St) : List Vr × St := if sees ts s wVar then ownsL ts s.adv else ([], s)
def headP (s : St) : Pg × St :=
  let n := name ts (need ts s wNode)
  let i := declsP ts n.2
  let o := declsP ts (need ts i.2 wReturns)
  let l := localsP ts (need ts o.2 [59])
  (⟨n.1, i.1, o.1, l.1, []⟩, need ts l.2 wLet)
/-- the equations: a fault and its place, or none; what was read; where -/
def eqsF (N : Int) : Nat → St → Option (Int × Int) × List Eqn × St
  | 0, s => (none, [], s)
  | f + 1, s =>
    if s.bad then (none, [], s)
    else if sees ts s wTel then (none, [], s.adv)
    else if (eqP ts s).2.bad then (none, [], (eqP ts s).2)
    else if right (eqP ts s).1.e ≠ 0 then (some (right (eqP ts s).1.e, plc ts s N), [], (eqP ts s).2)
    else ((eqsF N f (eqP ts s).2).1, (eqP ts s).1 :: (eqsF N f (eqP ts s).2).2.1, (eqsF N f (eqP ts s).2).2.2)
def eqsL (N : Int) (s : St) : Option (Int × Int) × List Eqn × St := eqsF ts N (ts.length - s.at_ + 1) s
/-- the program of tokens -/
def parseT (N : Int) : Pg × Int × Int :=
  match (eqsL ts N (headP ts ⟨0, false⟩).2).1 with
  | some (e, p) => (Pg.zero, e, p)
  | none =>
    if (eqsL ts N (headP ts ⟨0, false⟩).2).2.2.bad || decide ((eqsL ts N (headP ts ⟨0, false⟩).2).2.2.at_ < ts.length) then (Pg.zero, 16, plc ts (eqsL ts N (headP ts ⟨0, false⟩).2).2.2 N)
    else ({ (headP ts ⟨0, false⟩).1 with eqs := (eqsL ts N (headP ts ⟨0, false⟩).2).2.1 }, 0, 0)
end
/-- the program of a text -/
def parse (l : Bs) : Pg × Int × Int := if (Lx.scan l).2.1 ≠ 0 then (Pg.zero, (Lx.scan l).2.1, (Lx.scan l).2.2) else parseT (Lx.scan l).1 l.length
section
variable {ts : List Tok}
theorem need_ok {s : St} {m : Bs} (h : (need ts s m).bad = false) : s.bad = false ∧ need ts s m = s.adv := by
  unfold need at h ⊢
  split
  · rename_i hs
    rw [if_pos hs] at h
    exact ⟨h, rfl⟩
  · rename_i hs
    rw [if_neg hs] at h
    cases h
theorem token_ok {s : St} {k : Int} (h : (token ts s k).2.bad = false) : s.bad = false ∧ (token ts s k).2 = s.adv := by
  unfold token at h ⊢
  split
  · rename_i hs
    rw [if_pos hs] at h
    exact ⟨h, rfl⟩
  · rename_i hs
    rw [if_neg hs] at h
    cases h
theorem name_ok {s : St} (h : (name ts s).2.bad = false) : s.bad = false ∧ (name ts s).2 = s.adv := token_ok h
theorem declP_at (s : St) : s.at_ ≤ (declP ts s).2.at_ := by
  have h1 := name_at (ts := ts) s
  have h2 := need_at (ts := ts) (name ts s).2 [58]
  have h3 := need_at (ts := ts) (need ts (name ts s).2 [58]) wInt
  unfold declP
  split
  · simp only [adv_at]; omega
  · simp only; omega
theorem declP_ok {s : St} (h : (declP ts s).2.bad = false) : s.at_ < (declP ts s).2.at_ := by
  have h2 := need_at (ts := ts) (name ts s).2 [58]
  have h3 := need_at (ts := ts) (need ts (name ts s).2 [58]) wInt
  unfold declP at h ⊢
  split
  · rename_i hs
    rw [if_pos hs] at h
    have hb : (need ts (name ts s).2 [58]).bad = false := h
    have hn := name_ok (need_ok hb).1
    rw [hn.2] at h2
    simp only [adv_at] at *; rw [hn.2]; omega
  · rename_i hs
    rw [if_neg hs] at h
    have hb := (need_ok h).1
    have hn := name_ok (need_ok hb).1
    rw [hn.2] at h2 h3
    simp only [adv_at] at *; rw [hn.2]; omega
theorem declsF_fuel : ∀ (f g : Nat) (s : St), ts.length - s.at_ < f → ts.length - s.at_ < g → declsF ts f s = declsF ts g s
  | 0, _, s, h, _ => by omega
  | _ + 1, 0, s, _, h => by omega
  | f + 1, g + 1, s, h1, h2 => by
    have ha := declP_at (ts := ts) s
    rw [declsF, declsF]
    split
    · rename_i hs
      have hl := (sees_lt hs).2
      rw [declsF_fuel f g _ (by rw [adv_at]; omega) (by rw [adv_at]; omega)]
    · rfl
theorem declsL_eq (s : St) : declsL ts s = if sees ts (declP ts s).2 [59] = true then ((declP ts s).1 :: (declsL ts (declP ts s).2.adv).1, (declsL ts (declP ts s).2.adv).2) else ([(declP ts s).1], need ts (declP ts s).2 [41]) := by
  have ha := declP_at (ts := ts) s
  show declsF ts (ts.length - s.at_ + 1) s = _
  rw [declsF]
  split
  · rename_i hs
    have hl := (sees_lt hs).2
    have e : declsF ts (ts.length - s.at_) (declP ts s).2.adv = declsL ts (declP ts s).2.adv := declsF_fuel _ _ _ (by rw [adv_at]; omega) (by rw [adv_at]; omega)
    rw [e]
  · rfl
theorem ownP_ok {s : St} (h : (ownP ts s).2.bad = false) : s.at_ < (ownP ts s).2.at_ := by
  unfold ownP at h ⊢
  split
  · rename_i hs
    rw [if_pos hs] at h
    have h1 := name_at (ts := ts) (declP ts s).2.adv
    have h2 := need_at (ts := ts) (name ts (declP ts s).2.adv).2 [59]
    have hd := declP_at (ts := ts) s
    rw [adv_at] at h1
    simp only; omega
  · split
    · rename_i _ hs
      have h1 := name_at (ts := ts) (declP ts s).2.adv
      have h2 := need_at (ts := ts) (name ts (declP ts s).2.adv).2 [59]
      have hd := declP_at (ts := ts) s
      rw [adv_at] at h1
      simp only; omega
    · rename_i hs1 hs2
      rw [if_neg hs1, if_neg hs2] at h
      have hb := (need_ok h).1
      have hd := declP_ok hb
      have h2 := need_at (ts := ts) (declP ts s).2 [59]
      simp only; omega
end
end Go.Proofs.Ytilkilffkjhhbaa.Tr
namespace Go.Proofs.Ytilkilffkjhhbaa.Tr
set_option maxRecDepth 20000
set_option linter.unusedVariables false
open Lx (Bs Tok)
theorem text_num (n : Int) : text (.mk 1 n [] []) = digits n := by rw [text_eq]; rfl
theorem text_bool0 : text (.mk 2 0 [] []) = wFalse := by rw [text_eq]; rfl
theorem text_bool1 : text (.mk 2 1 [] []) = wTrue := by rw [text_eq]; rfl
theorem text_var (m : Bs) : text (.mk 3 0 m []) = m := by rw [text_eq]; rfl
theorem text_neg (a : Ex) : text (.mk 4 1 [] [a]) = [45] ++ part a := by rw [text_eq, texts_map]; rfl
theorem text_not (a : Ex) : text (.mk 4 2 [] [a]) = wNot ++ sp ++ part a := by rw [text_eq, texts_map]; rfl
theorem text_bin (n : Int) (a b : Ex) : text (.mk 5 n [] [a, b]) = part a ++ sp ++ opm n ++ sp ++ part b := by rw [text_eq, texts_map]; rfl
theorem text_if (a b c : Ex) : text (.mk 6 0 [] [a, b, c]) = wIf ++ sp ++ text a ++ sp ++ wThen ++ sp ++ text b ++ sp ++ wElse ++ sp ++ text c := by rw [text_eq, texts_map]; rfl
theorem text_arrow (a b : Ex) : text (.mk 7 0 [] [a, b]) = part a ++ sp ++ arrow ++ sp ++ part b := by rw [text_eq, texts_map]; rfl
theorem text_when (m : Bs) (a : Ex) : text (.mk 8 0 m [a]) = part a ++ sp ++ wWhen ++ sp ++ m := by rw [text_eq, texts_map]; rfl
theorem text_unless (m : Bs) (a : Ex) : text (.mk 9 0 m [a]) = part a ++ sp ++ wUnless ++ sp ++ m := by rw [text_eq, texts_map]; rfl
theorem text_merge (m : Bs) (a b : Ex) : text (.mk 10 0 m [a, b]) = wMerge ++ sp ++ m ++ sp ++ part a ++ sp ++ part b := by rw [text_eq, texts_map]; rfl
theorem part_len (x : Ex) : (part x).length ≤ (text x).length + 2 := by unfold part; split <;> simp
theorem digitsF_len : ∀ (f n : Nat) (acc : Bs), (digitsF f n acc).length ≤ f + acc.length
  | 0, n, acc => by rw [digitsF]; omega
  | f + 1, n, acc => by
    rw [digitsF]
    split
    · simp; omega
    · have := digitsF_len f (n / 10) (UInt8.ofNat (48 + n % 10) :: acc)
      simp only [List.length_cons] at this
      omega
theorem digits_len (n : Int) : (digits n).length ≤ 11 := by
  unfold digits
  have := digitsF_len 10 n.natAbs []
  split
  · simp at *; omega
  · simp at *; omega
theorem ite_len {c : Prop} [Decidable c] {a b : Bs} (h1 : a.length ≤ 2) (h2 : b.length ≤ 2) : (if c then a else b).length ≤ 2 := by by_cases h : c <;> simp [h, h1, h2]
theorem opm_len (n : Int) : (opm n).length ≤ 2 := by
  unfold opm
  repeat' (first | decide | refine ite_len ?_ ?_)
theorem name_len {m : Bs} (h : Lx.isName m = true) : m.length ≤ 16 := by
  unfold Lx.isName at h
  simp at h
  exact h.1.1.1.2
end Go.Proofs.Ytilkilffkjhhbaa.Tr
