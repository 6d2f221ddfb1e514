/-
  What the package judge tells of a code, in plain Lean. No program in sight.
-/
import Derived.Test.YtlfbpcjeohbfkaaIsaPlain
namespace Go.Proofs.Ytlfbpcjeohbfkaa.Ju

structure Fr where
  sl : Int
  ol : Int
  nw : Int
  is : Int
  os : Int
/-- is a frame right? -/
def okFr (f : Fr) : Bool := decide (0 ≤ f.sl ∧ f.sl ≤ 24) && (decide (0 ≤ f.ol ∧ f.ol ≤ 16) && (decide (0 ≤ f.nw ∧ f.nw ≤ 16) && (decide (0 ≤ f.is ∧ f.is ≤ 8) && decide (0 ≤ f.os ∧ f.os ≤ 8))))
def room (op : Int) (f : Fr) : Int := if op = 2 ∨ op = 3 then f.sl else if op = 4 then f.ol else if op = 5 then f.nw else if op = 6 then f.is else if op = 7 then f.os else -1
def takes (op : Int) : Int := if op = 3 ∨ op = 5 ∨ op = 7 ∨ op = 8 ∨ op = 11 then 1 else if op = 9 then 2 else 0
def gives (op : Int) : Int := if op = 1 ∨ op = 2 ∨ op = 4 ∨ op = 6 ∨ op = 8 ∨ op = 9 then 1 else 0
/-- the places: depth and steps, where a way came -/
abbrev St := Nat → Option (Int × Int)
def upd (s : St) (t : Nat) (v : Int × Int) : St := fun k => if k = t then some v else s k
def come (s : St) (t : Nat) (d f : Int) : Option St :=
  match s t with
  | none => some (upd s t (d, f))
  | some (d', f') => if d' = d then some (upd s t (d, max f' f)) else none
def jumps (op : Int) : Bool := op == 10 || op == 11
/-- where a jump leads -/
def to (k : Nat) (i : Ia.Ins) : Nat := k + 1 + i.n.toNat
/-- an instruction at a place: the error, the places behind it, the depth behind it -/
def step (f : Fr) (n : Nat) (i : Ia.Ins) (k : Nat) (s : St) : Int × St × Int :=
  if Ia.right i ≠ 0 then (Ia.right i, s, 0)
  else if 0 ≤ room i.op f ∧ room i.op f ≤ i.n then (10, s, 0)
  else match s k with
    | none => (13, s, 0)
    | some (d0, f0) =>
      if d0 < takes i.op ∨ 16 < d0 - takes i.op + gives i.op then (12, s, 0)
      else if jumps i.op = true ∧ n < to k i then (11, s, 0)
      else
        match (if i.op = 10 then some s else come s (k + 1) (d0 - takes i.op + gives i.op) (f0 + 1)) with
        | none => (12, s, 0)
        | some s1 =>
          match (if jumps i.op = true then come s1 (to k i) (d0 - takes i.op + gives i.op) (f0 + 1) else some s1) with
          | none => (12, s1, 0)
          | some s2 => (0, s2, d0 - takes i.op + gives i.op)
section
variable {f : Fr} {n k : Nat} {i : Ia.Ins} {s s1 s2 : St} {d0 f0 : Int}
theorem step_right (h : Ia.right i ≠ 0) : step f n i k s = (Ia.right i, s, 0) := by unfold step; rw [if_pos h]
theorem step_room (h : Ia.right i = 0) (h2 : 0 ≤ room i.op f ∧ room i.op f ≤ i.n) : step f n i k s = (10, s, 0) := by unfold step; rw [if_neg (fun e => e h), if_pos h2]
theorem step_reach (h : Ia.right i = 0) (h2 : ¬ (0 ≤ room i.op f ∧ room i.op f ≤ i.n)) (h3 : s k = none) : step f n i k s = (13, s, 0) := by unfold step; rw [if_neg (fun e => e h), if_neg h2, h3]
theorem step_stack (h : Ia.right i = 0) (h2 : ¬ (0 ≤ room i.op f ∧ room i.op f ≤ i.n)) (h3 : s k = some (d0, f0)) (h4 : d0 < takes i.op ∨ 16 < d0 - takes i.op + gives i.op) : step f n i k s = (12, s, 0) := by
  unfold step; rw [if_neg (fun e => e h), if_neg h2, h3]; dsimp only; rw [if_pos h4]
theorem step_jump (h : Ia.right i = 0) (h2 : ¬ (0 ≤ room i.op f ∧ room i.op f ≤ i.n)) (h3 : s k = some (d0, f0)) (h4 : ¬ (d0 < takes i.op ∨ 16 < d0 - takes i.op + gives i.op)) (h5 : jumps i.op = true ∧ n < to k i) : step f n i k s = (11, s, 0) := by
  unfold step; rw [if_neg (fun e => e h), if_neg h2, h3]; dsimp only; rw [if_neg h4, if_pos h5]
theorem step_c1 (h : Ia.right i = 0) (h2 : ¬ (0 ≤ room i.op f ∧ room i.op f ≤ i.n)) (h3 : s k = some (d0, f0)) (h4 : ¬ (d0 < takes i.op ∨ 16 < d0 - takes i.op + gives i.op)) (h5 : ¬ (jumps i.op = true ∧ n < to k i))
    (h6 : (if i.op = 10 then some s else come s (k + 1) (d0 - takes i.op + gives i.op) (f0 + 1)) = none) : step f n i k s = (12, s, 0) := by
  unfold step; rw [if_neg (fun e => e h), if_neg h2, h3]; dsimp only; rw [if_neg h4, if_neg h5, h6]
theorem step_c2 (h : Ia.right i = 0) (h2 : ¬ (0 ≤ room i.op f ∧ room i.op f ≤ i.n)) (h3 : s k = some (d0, f0)) (h4 : ¬ (d0 < takes i.op ∨ 16 < d0 - takes i.op + gives i.op)) (h5 : ¬ (jumps i.op = true ∧ n < to k i))
    (h6 : (if i.op = 10 then some s else come s (k + 1) (d0 - takes i.op + gives i.op) (f0 + 1)) = some s1) (h7 : (if jumps i.op = true then come s1 (to k i) (d0 - takes i.op + gives i.op) (f0 + 1) else some s1) = none) : step f n i k s = (12, s1, 0) := by
  unfold step; rw [if_neg (fun e => e h), if_neg h2, h3]; dsimp only; rw [if_neg h4, if_neg h5, h6]; dsimp only; rw [h7]
theorem step_ok (h : Ia.right i = 0) (h2 : ¬ (0 ≤ room i.op f ∧ room i.op f ≤ i.n)) (h3 : s k = some (d0, f0)) (h4 : ¬ (d0 < takes i.op ∨ 16 < d0 - takes i.op + gives i.op)) (h5 : ¬ (jumps i.op = true ∧ n < to k i))
    (h6 : (if i.op = 10 then some s else come s (k + 1) (d0 - takes i.op + gives i.op) (f0 + 1)) = some s1) (h7 : (if jumps i.op = true then come s1 (to k i) (d0 - takes i.op + gives i.op) (f0 + 1) else some s1) = some s2) : step f n i k s = (0, s2, d0 - takes i.op + gives i.op) := by
  unfold step; rw [if_neg (fun e => e h), if_neg h2, h3]; dsimp only; rw [if_neg h4, if_neg h5, h6]; dsimp only; rw [h7]
end
/-- depth, steps, error, place -/
structure Res where
  dp : Int
  fu : Int
  er : Int
  at_ : Int
def run (f : Fr) (n : Nat) : List Ia.Ins → Nat → St → Int → Res
  | [], k, s, top =>
    match s k with
    | none => ⟨top, 0, 0, 0⟩
    | some (d, fu) => if d = 0 then ⟨top, fu, 0, 0⟩ else ⟨0, 0, 12, k⟩
  | i :: r, k, s, top =>
    if (step f n i k s).1 ≠ 0 then ⟨0, 0, (step f n i k s).1, k⟩
    else run f n r (k + 1) (step f n i k s).2.1 (max top (step f n i k s).2.2)
def first : St := fun k => if k = 0 then some (0, 0) else none
def check (f : Fr) (code : List Ia.Ins) : Res :=
  if okFr f = false then ⟨0, 0, 1, 0⟩
  else if 600 < code.length then ⟨0, 0, 3, 0⟩
  else run f code.length code 0 first 0
end Go.Proofs.Ytlfbpcjeohbfkaa.Ju
