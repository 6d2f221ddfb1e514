/-
  What the package judge tells of a code, in plain Lean. No program in sight.
  The small functions of judge and of its reference: frames, what an instruction takes, gives and touches, its ways.
  What an instruction takes, gives and touches, by the package judge.
  A way that comes to a place: the method come of judge's walk.
  The run of single operations on memory: a field's address, an element's, loads and stores, a new block.
  A drawn statement of judge's one, whatever the order.
-/
import Derived.Test.YtjhopgmionpkoaaIsa1
import Derived.Test.YtjhopgmionpkoaaRgn
namespace Go.Proofs.Ytjhopgmionpkoaa.Ju
set_option maxRecDepth 20000

structure Fr where
  sl : Int
  ol : Int
  nw : Int
  is : Int
  os : Int
/-- is a frame right? -/
def okFr (f : Fr) : Bool := decide (0 ≤ f.sl ∧ f.sl ≤ 24) && (decide (0 ≤ f.ol ∧ f.ol ≤ 16) && (decide (0 ≤ f.nw ∧ f.nw ≤ 16) && (decide (0 ≤ f.is ∧ f.is ≤ 8) && decide (0 ≤ f.os ∧ f.os ≤ 8))))
def room (op : Int) (f : Fr) : Int := if op = 2 ∨ op = 3 then f.sl else if op = 4 then f.ol else if op = 5 then f.nw else if op = 6 then f.is else if op = 7 then f.os else -1
def takes (op : Int) : Int := if op = 3 ∨ op = 5 ∨ op = 7 ∨ op = 8 ∨ op = 11 then 1 else if op = 9 then 2 else 0
def gives (op : Int) : Int := if op = 1 ∨ op = 2 ∨ op = 4 ∨ op = 6 ∨ op = 8 ∨ op = 9 then 1 else 0
/-- the places: depth and steps, where a way came -/
abbrev St := Nat → Option (Int × Int)
def upd (s : St) (t : Nat) (v : Int × Int) : St := fun k => if k = t then some v else s k
def come (s : St) (t : Nat) (d f : Int) : Option St :=
  match s t with
  | none => some (upd s t (d, f))
  | some (d', f') => if d' = d then some (upd s t (d, max f' f)) else none
def jumps (op : Int) : Bool := op == 10 || op == 11
/-- where a jump leads -/
def tgt (k : Nat) (i : Ia.Ins) : Nat := k + 1 + i.n.toNat
/-- an instruction at a place: the error, the places behind it, the depth behind it -/
def step (f : Fr) (n : Nat) (i : Ia.Ins) (k : Nat) (s : St) : Int × St × Int :=
  if Ia.right i ≠ 0 then (Ia.right i, s, 0)
  else if 0 ≤ room i.op f ∧ room i.op f ≤ i.n then (10, s, 0)
  else match s k with
    | none => (13, s, 0)
    | some (d0, f0) =>
      if d0 < takes i.op ∨ 16 < d0 - takes i.op + gives i.op then (12, s, 0)
      else if jumps i.op = true ∧ n < tgt k i then (11, s, 0)
      else
        match (if i.op = 10 then some s else come s (k + 1) (d0 - takes i.op + gives i.op) (f0 + 1)) with
        | none => (12, s, 0)
        | some s1 =>
          match (if jumps i.op = true then come s1 (tgt k i) (d0 - takes i.op + gives i.op) (f0 + 1) else some s1) with
          | none => (12, s1, 0)
          | some s2 => (0, s2, d0 - takes i.op + gives i.op)
section
variable {f : Fr} {n k : Nat} {i : Ia.Ins} {s s1 s2 : St} {d0 f0 : Int}
theorem step_right (h : Ia.right i ≠ 0) : step f n i k s = (Ia.right i, s, 0) := by unfold step; rw [if_pos h]
theorem step_room (h : Ia.right i = 0) (h2 : 0 ≤ room i.op f ∧ room i.op f ≤ i.n) : step f n i k s = (10, s, 0) := by unfold step; rw [if_neg (fun e => e h), if_pos h2]
theorem step_reach (h : Ia.right i = 0) (h2 : ¬ (0 ≤ room i.op f ∧ room i.op f ≤ i.n)) (h3 : s k = none) : step f n i k s = (13, s, 0) := by unfold step; rw [if_neg (fun e => e h), if_neg h2, h3]
theorem step_stack (h : Ia.right i = 0) (h2 : ¬ (0 ≤ room i.op f ∧ room i.op f ≤ i.n)) (h3 : s k = some (d0, f0)) (h4 : d0 < takes i.op ∨ 16 < d0 - takes i.op + gives i.op) : step f n i k s = (12, s, 0) := by
  unfold step; rw [if_neg (fun e => e h), if_neg h2, h3]; dsimp only; rw [if_pos h4]
theorem step_jump (h : Ia.right i = 0) (h2 : ¬ (0 ≤ room i.op f ∧ room i.op f ≤ i.n)) (h3 : s k = some (d0, f0)) (h4 : ¬ (d0 < takes i.op ∨ 16 < d0 - takes i.op + gives i.op)) (h5 : jumps i.op = true ∧ n < tgt k i) : step f n i k s = (11, s, 0) := by
  unfold step; rw [if_neg (fun e => e h), if_neg h2, h3]; dsimp only; rw [if_neg h4, if_pos h5]
theorem step_c1 (h : Ia.right i = 0) (h2 : ¬ (0 ≤ room i.op f ∧ room i.op f ≤ i.n)) (h3 : s k = some (d0, f0)) (h4 : ¬ (d0 < takes i.op ∨ 16 < d0 - takes i.op + gives i.op)) (h5 : ¬ (jumps i.op = true ∧ n < tgt k i))
    (h6 : (if i.op = 10 then some s else come s (k + 1) (d0 - takes i.op + gives i.op) (f0 + 1)) = none) : step f n i k s = (12, s, 0) := by
  unfold step; rw [if_neg (fun e => e h), if_neg h2, h3]; dsimp only; rw [if_neg h4, if_neg h5, h6]
theorem step_c2 (h : Ia.right i = 0) (h2 : ¬ (0 ≤ room i.op f ∧ room i.op f ≤ i.n)) (h3 : s k = some (d0, f0)) (h4 : ¬ (d0 < takes i.op ∨ 16 < d0 - takes i.op + gives i.op)) (h5 : ¬ (jumps i.op = true ∧ n < tgt k i))
    (h6 : (if i.op = 10 then some s else come s (k + 1) (d0 - takes i.op + gives i.op) (f0 + 1)) = some s1) (h7 : (if jumps i.op = true then come s1 (tgt k i) (d0 - takes i.op + gives i.op) (f0 + 1) else some s1) = none) : step f n i k s = (12, s1, 0) := by
  unfold step; rw [if_neg (fun e => e h), if_neg h2, h3]; dsimp only; rw [if_neg h4, if_neg h5, h6]; dsimp only; rw [h7]
theorem step_ok (h : Ia.right i = 0) (h2 : ¬ (0 ≤ room i.op f ∧ room i.op f ≤ i.n)) (h3 : s k = some (d0, f0)) (h4 : ¬ (d0 < takes i.op ∨ 16 < d0 - takes i.op + gives i.op)) (h5 : ¬ (jumps i.op = true ∧ n < tgt k i))
    (h6 : (if i.op = 10 then some s else come s (k + 1) (d0 - takes i.op + gives i.op) (f0 + 1)) = some s1) (h7 : (if jumps i.op = true then come s1 (tgt k i) (d0 - takes i.op + gives i.op) (f0 + 1) else some s1) = some s2) : step f n i k s = (0, s2, d0 - takes i.op + gives i.op) := by
  unfold step; rw [if_neg (fun e => e h), if_neg h2, h3]; dsimp only; rw [if_neg h4, if_neg h5, h6]; dsimp only; rw [h7]
end
/-- depth, steps, error, place -/
structure Res where
  dp : Int
  fu : Int
  er : Int
  at_ : Int
def run (f : Fr) (n : Nat) : List Ia.Ins → Nat → St → Int → Res
  | [], k, s, top =>
    match s k with
    | none => ⟨top, 0, 0, 0⟩
    | some (d, fu) => if d = 0 then ⟨top, fu, 0, 0⟩ else ⟨0, 0, 12, k⟩
  | i :: r, k, s, top =>
    if (step f n i k s).1 ≠ 0 then ⟨0, 0, (step f n i k s).1, k⟩
    else run f n r (k + 1) (step f n i k s).2.1 (max top (step f n i k s).2.2)
def first : St := fun k => if k = 0 then some (0, 0) else none
def check (f : Fr) (code : List Ia.Ins) : Res :=
  if okFr f = false then ⟨0, 0, 1, 0⟩
  else if 600 < code.length then ⟨0, 0, 3, 0⟩
  else run f code.length code 0 first 0
end Go.Proofs.Ytjhopgmionpkoaa.Ju
namespace Go.Proofs.Ytjhopgmionpkoaa
set_option maxRecDepth 20000
open Go.RowKit Mem

def frAgg (f : Ju.Fr) : Value := .agg #[.int .i64 f.sl, .int .i64 f.ol, .int .i64 f.nw, .int .i64 f.is, .int .i64 f.os]
theorem jwithin (n m : Int) (w : World) : Calls Try.prog 75 #[.int .i64 n, .int .i64 m] w fun e w' => e = .returned (.bool (decide (0 ≤ n ∧ n ≤ m))) ∧ w = w' := by
  by_cases h : 0 ≤ n
  · by_cases h2 : n ≤ m
    · rw [decide_eq_true (And.intro h h2)]
      go_enter Try.func75, Try.ntmps75
      go_wp2_with fail
      go_ret
      exact ⟨rfl, rfl⟩
    · rw [decide_eq_false (fun hh => h2 hh.2)]
      go_enter Try.func75, Try.ntmps75
      go_wp2_with fail
      go_ret
      exact ⟨rfl, rfl⟩
  · rw [decide_eq_false (fun hh => h hh.1)]
    go_enter Try.func75, Try.ntmps75
    go_wp2_with fail
    go_ret
    exact ⟨rfl, rfl⟩
def frErr (f : Ju.Fr) : Int := if Ju.okFr f = true then 0 else 1
set_option maxHeartbeats 4000000 in
theorem jframe (f : Ju.Fr) (w : World) : Calls Try.prog 40 #[frAgg f] w fun e w' => e = .returned (.int .i64 (frErr f)) ∧ Below w.heap.size w w' := by
  obtain ⟨sl, ol, nw, is, os⟩ := f
  unfold frErr Ju.okFr frAgg
  dsimp only
  have HR : Hid (∀ n m W, Calls Try.prog 75 #[.int .i64 n, .int .i64 m] W fun e w' => e = .returned (.bool (decide (0 ≤ n ∧ n ≤ m))) ∧ W = w') := jwithin

  generalize hb0 : decide (0 ≤ sl ∧ sl ≤ 24) = b0
  generalize hb1 : decide (0 ≤ ol ∧ ol ≤ 16) = b1
  generalize hb2 : decide (0 ≤ nw ∧ nw ≤ 16) = b2
  generalize hb3 : decide (0 ≤ is ∧ is ≤ 8) = b3
  generalize hb4 : decide (0 ≤ os ∧ os ≤ 8) = b4
  have HH0 := Lib.hid hb0
  have HH1 := Lib.hid hb1
  have HH2 := Lib.hid hb2
  have HH3 := Lib.hid hb3
  have HH4 := Lib.hid hb4
  clear hb0 hb1 hb2 hb3 hb4
  cases b0 with
  | false =>
    go_enter Try.func40, Try.ntmps40
    go_wp2_with fail
    refine (HR.out _ _ _).mono ?_
    rintro e w' ⟨rfl, rfl⟩
    rw [HH0.out]
    go_wp2_with fail
    go_ret
    exact ⟨rfl, (Below.refl _ _).alloc (Nat.le_refl _) _⟩
  | true =>
    cases b1 with
    | false =>
      go_enter Try.func40, Try.ntmps40
      go_wp2_with fail
      refine (HR.out _ _ _).mono ?_
      rintro e w' ⟨rfl, rfl⟩
      rw [HH0.out]
      go_wp2_with fail
      refine (HR.out _ _ _).mono ?_
      rintro e w' ⟨rfl, rfl⟩
      rw [HH1.out]
      go_wp2_with fail
      go_ret
      exact ⟨rfl, (Below.refl _ _).alloc (Nat.le_refl _) _⟩
    | true =>
      cases b2 with
      | false =>
        go_enter Try.func40, Try.ntmps40
        go_wp2_with fail
        refine (HR.out _ _ _).mono ?_
        rintro e w' ⟨rfl, rfl⟩
        rw [HH0.out]
        go_wp2_with fail
        refine (HR.out _ _ _).mono ?_
        rintro e w' ⟨rfl, rfl⟩
        rw [HH1.out]
        go_wp2_with fail
        refine (HR.out _ _ _).mono ?_
        rintro e w' ⟨rfl, rfl⟩
        rw [HH2.out]
        go_wp2_with fail
        go_ret
        exact ⟨rfl, (Below.refl _ _).alloc (Nat.le_refl _) _⟩
      | true =>
        cases b3 with
        | false =>
          go_enter Try.func40, Try.ntmps40
          go_wp2_with fail
          refine (HR.out _ _ _).mono ?_
          rintro e w' ⟨rfl, rfl⟩
          rw [HH0.out]
          go_wp2_with fail
          refine (HR.out _ _ _).mono ?_
          rintro e w' ⟨rfl, rfl⟩
          rw [HH1.out]
          go_wp2_with fail
          refine (HR.out _ _ _).mono ?_
          rintro e w' ⟨rfl, rfl⟩
          rw [HH2.out]
          go_wp2_with fail
          refine (HR.out _ _ _).mono ?_
          rintro e w' ⟨rfl, rfl⟩
          rw [HH3.out]
          go_wp2_with fail
          go_ret
          exact ⟨rfl, (Below.refl _ _).alloc (Nat.le_refl _) _⟩
        | true =>
          cases b4 with
          | false =>
            go_enter Try.func40, Try.ntmps40
            go_wp2_with fail
            refine (HR.out _ _ _).mono ?_
            rintro e w' ⟨rfl, rfl⟩
            rw [HH0.out]
            go_wp2_with fail
            refine (HR.out _ _ _).mono ?_
            rintro e w' ⟨rfl, rfl⟩
            rw [HH1.out]
            go_wp2_with fail
            refine (HR.out _ _ _).mono ?_
            rintro e w' ⟨rfl, rfl⟩
            rw [HH2.out]
            go_wp2_with fail
            refine (HR.out _ _ _).mono ?_
            rintro e w' ⟨rfl, rfl⟩
            rw [HH3.out]
            go_wp2_with fail
            refine (HR.out _ _ _).mono ?_
            rintro e w' ⟨rfl, rfl⟩
            rw [HH4.out]
            go_wp2_with fail
            go_ret
            exact ⟨rfl, (Below.refl _ _).alloc (Nat.le_refl _) _⟩
          | true =>
            go_enter Try.func40, Try.ntmps40
            go_wp2_with fail
            refine (HR.out _ _ _).mono ?_
            rintro e w' ⟨rfl, rfl⟩
            rw [HH0.out]
            go_wp2_with fail
            refine (HR.out _ _ _).mono ?_
            rintro e w' ⟨rfl, rfl⟩
            rw [HH1.out]
            go_wp2_with fail
            refine (HR.out _ _ _).mono ?_
            rintro e w' ⟨rfl, rfl⟩
            rw [HH2.out]
            go_wp2_with fail
            refine (HR.out _ _ _).mono ?_
            rintro e w' ⟨rfl, rfl⟩
            rw [HH3.out]
            go_wp2_with fail
            refine (HR.out _ _ _).mono ?_
            rintro e w' ⟨rfl, rfl⟩
            rw [HH4.out]
            go_wp2_with fail
            go_ret
            exact ⟨rfl, (Below.refl _ _).alloc (Nat.le_refl _) _⟩
set_option maxHeartbeats 4000000 in
theorem refframe (f : Ju.Fr) (w : World) : Calls Try.prog 56 #[frAgg f] w fun e w' => e = .returned (.int .i64 (frErr f)) ∧ Below w.heap.size w w' := by
  obtain ⟨sl, ol, nw, is, os⟩ := f
  have HF : Hid (∀ z, z = frErr ⟨sl, ol, nw, is, os⟩ → z = frErr ⟨sl, ol, nw, is, os⟩) := fun _ h => h
  obtain ⟨q, hq⟩ : ∃ q, q = frErr ⟨sl, ol, nw, is, os⟩ := ⟨_, rfl⟩
  rw [← hq]
  unfold frErr Ju.okFr at hq
  dsimp only at hq
  clear HF
  unfold frAgg
  dsimp only
  by_cases h0a : sl < 0
  · skip
    have e : q = 1 := by rw [hq, if_neg]; simp only [Bool.and_eq_true, decide_eq_true_eq]; omega
    clear hq
    subst e
    go_enter Try.func56, Try.ntmps56
    go_wp2_with fail
    go_ret
    exact ⟨rfl, (Below.refl _ _).alloc (Nat.le_refl _) _⟩
  by_cases h0b : sl > 24
  · skip
    have e : q = 1 := by rw [hq, if_neg]; simp only [Bool.and_eq_true, decide_eq_true_eq]; omega
    clear hq
    subst e
    go_enter Try.func56, Try.ntmps56
    go_wp2_with fail
    go_ret
    exact ⟨rfl, (Below.refl _ _).alloc (Nat.le_refl _) _⟩
  by_cases h1a : ol < 0
  · skip
    have e : q = 1 := by rw [hq, if_neg]; simp only [Bool.and_eq_true, decide_eq_true_eq]; omega
    clear hq
    subst e
    go_enter Try.func56, Try.ntmps56
    go_wp2_with fail
    go_ret
    exact ⟨rfl, (Below.refl _ _).alloc (Nat.le_refl _) _⟩
  by_cases h1b : ol > 16
  · skip
    have e : q = 1 := by rw [hq, if_neg]; simp only [Bool.and_eq_true, decide_eq_true_eq]; omega
    clear hq
    subst e
    go_enter Try.func56, Try.ntmps56
    go_wp2_with fail
    go_ret
    exact ⟨rfl, (Below.refl _ _).alloc (Nat.le_refl _) _⟩
  by_cases h2a : nw < 0
  · skip
    have e : q = 1 := by rw [hq, if_neg]; simp only [Bool.and_eq_true, decide_eq_true_eq]; omega
    clear hq
    subst e
    go_enter Try.func56, Try.ntmps56
    go_wp2_with fail
    go_ret
    exact ⟨rfl, (Below.refl _ _).alloc (Nat.le_refl _) _⟩
  by_cases h2b : nw > 16
  · skip
    have e : q = 1 := by rw [hq, if_neg]; simp only [Bool.and_eq_true, decide_eq_true_eq]; omega
    clear hq
    subst e
    go_enter Try.func56, Try.ntmps56
    go_wp2_with fail
    go_ret
    exact ⟨rfl, (Below.refl _ _).alloc (Nat.le_refl _) _⟩
  by_cases h3a : is < 0
  · skip
    have e : q = 1 := by rw [hq, if_neg]; simp only [Bool.and_eq_true, decide_eq_true_eq]; omega
    clear hq
    subst e
    go_enter Try.func56, Try.ntmps56
    go_wp2_with fail
    go_ret
    exact ⟨rfl, (Below.refl _ _).alloc (Nat.le_refl _) _⟩
  by_cases h3b : is > 8
  · skip
    have e : q = 1 := by rw [hq, if_neg]; simp only [Bool.and_eq_true, decide_eq_true_eq]; omega
    clear hq
    subst e
    go_enter Try.func56, Try.ntmps56
    go_wp2_with fail
    go_ret
    exact ⟨rfl, (Below.refl _ _).alloc (Nat.le_refl _) _⟩
  by_cases h4a : os < 0
  · skip
    have e : q = 1 := by rw [hq, if_neg]; simp only [Bool.and_eq_true, decide_eq_true_eq]; omega
    clear hq
    subst e
    go_enter Try.func56, Try.ntmps56
    go_wp2_with fail
    go_ret
    exact ⟨rfl, (Below.refl _ _).alloc (Nat.le_refl _) _⟩
  by_cases h4b : os > 8
  · skip
    have e : q = 1 := by rw [hq, if_neg]; simp only [Bool.and_eq_true, decide_eq_true_eq]; omega
    clear hq
    subst e
    go_enter Try.func56, Try.ntmps56
    go_wp2_with fail
    go_ret
    exact ⟨rfl, (Below.refl _ _).alloc (Nat.le_refl _) _⟩
  have e : q = 0 := by rw [hq, if_pos]; simp only [Bool.and_eq_true, decide_eq_true_eq]; omega
  clear hq
  subst e
  go_enter Try.func56, Try.ntmps56
  go_wp2_with fail
  go_ret
  exact ⟨rfl, (Below.refl _ _).alloc (Nat.le_refl _) _⟩
theorem set3row {W : World} {g : Nat} {t : TypeId} {c0 c1 c2 : Value} (h : W.heap[g]? = some (.cells #[c0, c1, c2] t (0, 0))) (u0 u1 u2 : Value) :
    (((W.setCell ⟨g, 0, none⟩ u0).setCell ⟨g, 1, none⟩ u1).setCell ⟨g, 2, none⟩ u2).heap[g]? = some (.cells #[u0, u1, u2] t (0, 0)) := by
  have h0 := heap_setCell_same _ g 0 _ t u0 h
  have h1 := heap_setCell_same _ g 1 _ t u1 h0
  have h2 := heap_setCell_same _ g 2 _ t u2 h1
  rw [h2]
  simp only [List.setIfInBounds_toArray, List.set_cons_zero, List.set_cons_succ]
def effAgg (op : Int) (f : Ju.Fr) : Value := .agg #[.int .i64 (Ju.takes op), .int .i64 (Ju.gives op), .int .i64 (Ju.room op f)]
theorem eff_none {op : Int} (h : ¬ (1 ≤ op ∧ op ≤ 11)) (f : Ju.Fr) : Ju.takes op = 0 ∧ Ju.gives op = 0 ∧ Ju.room op f = -1 := by
  unfold Ju.takes Ju.gives Ju.room
  refine ⟨?_, ?_, ?_⟩
  all_goals repeat (first | rw [if_neg (by omega)])
set_option maxRecDepth 10000 in
set_option maxHeartbeats 4000000 in
theorem refroom (op : Int) (f : Ju.Fr) (w : World) : Calls Try.prog 58 #[.int .i64 op, frAgg f] w fun e w' => e = .returned (.int .i64 (Ju.room op f)) ∧ Below w.heap.size w w' := by
  obtain ⟨sl, ol, nw, is, os⟩ := f
  unfold frAgg
  dsimp only
  by_cases h : 1 ≤ op ∧ op ≤ 11
  · rcases (show op = 1 ∨ op = 2 ∨ op = 3 ∨ op = 4 ∨ op = 5 ∨ op = 6 ∨ op = 7 ∨ op = 8 ∨ op = 9 ∨ op = 10 ∨ op = 11 by omega) with rfl | rfl | rfl | rfl | rfl | rfl | rfl | rfl | rfl | rfl | rfl
    all_goals
      go_enter Try.func58, Try.ntmps58
      go_wp2_with fail
      go_ret
      exact ⟨rfl, (Below.refl _ _).alloc (Nat.le_refl _) _⟩
  · obtain ⟨z1, z2, z3⟩ := eff_none h ⟨sl, ol, nw, is, os⟩
    rw [z3]
    have b1 : (op == 1) = false := by simp; omega
    have b2 : (op == 2) = false := by simp; omega
    have b3 : (op == 3) = false := by simp; omega
    have b4 : (op == 4) = false := by simp; omega
    have b5 : (op == 5) = false := by simp; omega
    have b6 : (op == 6) = false := by simp; omega
    have b7 : (op == 7) = false := by simp; omega
    have b8 : (op == 8) = false := by simp; omega
    have b9 : (op == 9) = false := by simp; omega
    have b10 : (op == 10) = false := by simp; omega
    have b11 : (op == 11) = false := by simp; omega
    clear h z1 z2 z3
    go_enter Try.func58, Try.ntmps58
    go_wp2_with fail
    go_ret
    exact ⟨rfl, (Below.refl _ _).alloc (Nat.le_refl _) _⟩
set_option maxRecDepth 10000 in
set_option maxHeartbeats 4000000 in
theorem reftakes (op : Int) (f : Ju.Fr) (w : World) : Calls Try.prog 59 #[.int .i64 op] w fun e w' => e = .returned (.int .i64 (Ju.takes op)) ∧ Below w.heap.size w w' := by
  obtain ⟨sl, ol, nw, is, os⟩ := f
  by_cases h : 1 ≤ op ∧ op ≤ 11
  · rcases (show op = 1 ∨ op = 2 ∨ op = 3 ∨ op = 4 ∨ op = 5 ∨ op = 6 ∨ op = 7 ∨ op = 8 ∨ op = 9 ∨ op = 10 ∨ op = 11 by omega) with rfl | rfl | rfl | rfl | rfl | rfl | rfl | rfl | rfl | rfl | rfl
    all_goals
      go_enter Try.func59, Try.ntmps59
      go_wp2_with fail
      go_ret
      exact ⟨rfl, Below.refl _ _⟩
  · obtain ⟨z1, z2, z3⟩ := eff_none h ⟨sl, ol, nw, is, os⟩
    rw [z1]
    have b1 : (op == 1) = false := by simp; omega
    have b2 : (op == 2) = false := by simp; omega
    have b3 : (op == 3) = false := by simp; omega
    have b4 : (op == 4) = false := by simp; omega
    have b5 : (op == 5) = false := by simp; omega
    have b6 : (op == 6) = false := by simp; omega
    have b7 : (op == 7) = false := by simp; omega
    have b8 : (op == 8) = false := by simp; omega
    have b9 : (op == 9) = false := by simp; omega
    have b10 : (op == 10) = false := by simp; omega
    have b11 : (op == 11) = false := by simp; omega
    clear h z1 z2 z3
    go_enter Try.func59, Try.ntmps59
    go_wp2_with fail
    go_ret
    exact ⟨rfl, Below.refl _ _⟩
set_option maxRecDepth 10000 in
set_option maxHeartbeats 4000000 in
theorem refgives (op : Int) (f : Ju.Fr) (w : World) : Calls Try.prog 60 #[.int .i64 op] w fun e w' => e = .returned (.int .i64 (Ju.gives op)) ∧ Below w.heap.size w w' := by
  obtain ⟨sl, ol, nw, is, os⟩ := f
  by_cases h : 1 ≤ op ∧ op ≤ 11
  · rcases (show op = 1 ∨ op = 2 ∨ op = 3 ∨ op = 4 ∨ op = 5 ∨ op = 6 ∨ op = 7 ∨ op = 8 ∨ op = 9 ∨ op = 10 ∨ op = 11 by omega) with rfl | rfl | rfl | rfl | rfl | rfl | rfl | rfl | rfl | rfl | rfl
    all_goals
      go_enter Try.func60, Try.ntmps60
      go_wp2_with fail
      go_ret
      exact ⟨rfl, Below.refl _ _⟩
  · obtain ⟨z1, z2, z3⟩ := eff_none h ⟨sl, ol, nw, is, os⟩
    rw [z2]
    have b1 : (op == 1) = false := by simp; omega
    have b2 : (op == 2) = false := by simp; omega
    have b3 : (op == 3) = false := by simp; omega
    have b4 : (op == 4) = false := by simp; omega
    have b5 : (op == 5) = false := by simp; omega
    have b6 : (op == 6) = false := by simp; omega
    have b7 : (op == 7) = false := by simp; omega
    have b8 : (op == 8) = false := by simp; omega
    have b9 : (op == 9) = false := by simp; omega
    have b10 : (op == 10) = false := by simp; omega
    have b11 : (op == 11) = false := by simp; omega
    clear h z1 z2 z3
    go_enter Try.func60, Try.ntmps60
    go_wp2_with fail
    go_ret
    exact ⟨rfl, Below.refl _ _⟩
end Go.Proofs.Ytjhopgmionpkoaa
namespace Go.Proofs.Ytjhopgmionpkoaa
set_option maxRecDepth 20000
open Go.RowKit Mem
set_option maxHeartbeats 1000000 in
theorem eff_1 (sl ol nw is os : Int) (w : World) : Calls Try.prog 77 #[.int .i64 1, .agg #[.int .i64 sl, .int .i64 ol, .int .i64 nw, .int .i64 is, .int .i64 os]] w fun e w' => e = .returned (.agg #[.int .i64 0, .int .i64 1, .int .i64 (-1)]) ∧ Below w.heap.size w w' := by
  go_enter Try.func77, Try.ntmps77
  go_wp2_with fail
  exact bodyPost_ret (v := .agg #[.int .i64 0, .int .i64 1, .int .i64 (-1)]) (results_cell_row (P := Try.prog) rfl _ _ (w.heap.size + 1) 109 #[.int .i64 0, .int .i64 1, .int .i64 (-1)] (0, 0) _ rfl (heap_alloc2_new _ _ _) Try.underlying109 rfl (by kernel_rfl)) rfl ⟨rfl, ((Below.refl _ _).alloc (Nat.le_refl _) _).alloc (by simp) _⟩
set_option maxHeartbeats 1000000 in
theorem eff_2 (sl ol nw is os : Int) (w : World) : Calls Try.prog 77 #[.int .i64 2, .agg #[.int .i64 sl, .int .i64 ol, .int .i64 nw, .int .i64 is, .int .i64 os]] w fun e w' => e = .returned (.agg #[.int .i64 0, .int .i64 1, .int .i64 sl]) ∧ Below w.heap.size w w' := by
  go_enter Try.func77, Try.ntmps77
  go_wp2_with fail
  exact bodyPost_ret (v := .agg #[.int .i64 0, .int .i64 1, .int .i64 sl]) (results_cell_row (P := Try.prog) rfl _ _ (w.heap.size + 1) 109 #[.int .i64 0, .int .i64 1, .int .i64 sl] (0, 0) _ rfl (heap_alloc2_new _ _ _) Try.underlying109 rfl (by kernel_rfl)) rfl ⟨rfl, ((Below.refl _ _).alloc (Nat.le_refl _) _).alloc (by simp) _⟩
set_option maxHeartbeats 1000000 in
theorem eff_3 (sl ol nw is os : Int) (w : World) : Calls Try.prog 77 #[.int .i64 3, .agg #[.int .i64 sl, .int .i64 ol, .int .i64 nw, .int .i64 is, .int .i64 os]] w fun e w' => e = .returned (.agg #[.int .i64 1, .int .i64 0, .int .i64 sl]) ∧ Below w.heap.size w w' := by
  go_enter Try.func77, Try.ntmps77
  go_wp2_with fail
  exact bodyPost_ret (v := .agg #[.int .i64 1, .int .i64 0, .int .i64 sl]) (results_cell_row (P := Try.prog) rfl _ _ (w.heap.size + 1) 109 #[.int .i64 1, .int .i64 0, .int .i64 sl] (0, 0) _ rfl (heap_alloc2_new _ _ _) Try.underlying109 rfl (by kernel_rfl)) rfl ⟨rfl, ((Below.refl _ _).alloc (Nat.le_refl _) _).alloc (by simp) _⟩
set_option maxHeartbeats 1000000 in
theorem eff_4 (sl ol nw is os : Int) (w : World) : Calls Try.prog 77 #[.int .i64 4, .agg #[.int .i64 sl, .int .i64 ol, .int .i64 nw, .int .i64 is, .int .i64 os]] w fun e w' => e = .returned (.agg #[.int .i64 0, .int .i64 1, .int .i64 ol]) ∧ Below w.heap.size w w' := by
  go_enter Try.func77, Try.ntmps77
  go_wp2_with fail
  exact bodyPost_ret (v := .agg #[.int .i64 0, .int .i64 1, .int .i64 ol]) (results_cell_row (P := Try.prog) rfl _ _ (w.heap.size + 1) 109 #[.int .i64 0, .int .i64 1, .int .i64 ol] (0, 0) _ rfl (heap_alloc2_new _ _ _) Try.underlying109 rfl (by kernel_rfl)) rfl ⟨rfl, ((Below.refl _ _).alloc (Nat.le_refl _) _).alloc (by simp) _⟩
set_option maxHeartbeats 1000000 in
theorem eff_5 (sl ol nw is os : Int) (w : World) : Calls Try.prog 77 #[.int .i64 5, .agg #[.int .i64 sl, .int .i64 ol, .int .i64 nw, .int .i64 is, .int .i64 os]] w fun e w' => e = .returned (.agg #[.int .i64 1, .int .i64 0, .int .i64 nw]) ∧ Below w.heap.size w w' := by
  go_enter Try.func77, Try.ntmps77
  go_wp2_with fail
  exact bodyPost_ret (v := .agg #[.int .i64 1, .int .i64 0, .int .i64 nw]) (results_cell_row (P := Try.prog) rfl _ _ (w.heap.size + 1) 109 #[.int .i64 1, .int .i64 0, .int .i64 nw] (0, 0) _ rfl (heap_alloc2_new _ _ _) Try.underlying109 rfl (by kernel_rfl)) rfl ⟨rfl, ((Below.refl _ _).alloc (Nat.le_refl _) _).alloc (by simp) _⟩
set_option maxHeartbeats 1000000 in
theorem eff_6 (sl ol nw is os : Int) (w : World) : Calls Try.prog 77 #[.int .i64 6, .agg #[.int .i64 sl, .int .i64 ol, .int .i64 nw, .int .i64 is, .int .i64 os]] w fun e w' => e = .returned (.agg #[.int .i64 0, .int .i64 1, .int .i64 is]) ∧ Below w.heap.size w w' := by
  go_enter Try.func77, Try.ntmps77
  go_wp2_with fail
  exact bodyPost_ret (v := .agg #[.int .i64 0, .int .i64 1, .int .i64 is]) (results_cell_row (P := Try.prog) rfl _ _ (w.heap.size + 1) 109 #[.int .i64 0, .int .i64 1, .int .i64 is] (0, 0) _ rfl (heap_alloc2_new _ _ _) Try.underlying109 rfl (by kernel_rfl)) rfl ⟨rfl, ((Below.refl _ _).alloc (Nat.le_refl _) _).alloc (by simp) _⟩
set_option maxHeartbeats 1000000 in
theorem eff_7 (sl ol nw is os : Int) (w : World) : Calls Try.prog 77 #[.int .i64 7, .agg #[.int .i64 sl, .int .i64 ol, .int .i64 nw, .int .i64 is, .int .i64 os]] w fun e w' => e = .returned (.agg #[.int .i64 1, .int .i64 0, .int .i64 os]) ∧ Below w.heap.size w w' := by
  go_enter Try.func77, Try.ntmps77
  go_wp2_with fail
  exact bodyPost_ret (v := .agg #[.int .i64 1, .int .i64 0, .int .i64 os]) (results_cell_row (P := Try.prog) rfl _ _ (w.heap.size + 1) 109 #[.int .i64 1, .int .i64 0, .int .i64 os] (0, 0) _ rfl (heap_alloc2_new _ _ _) Try.underlying109 rfl (by kernel_rfl)) rfl ⟨rfl, ((Below.refl _ _).alloc (Nat.le_refl _) _).alloc (by simp) _⟩
set_option maxHeartbeats 1000000 in
theorem eff_8 (sl ol nw is os : Int) (w : World) : Calls Try.prog 77 #[.int .i64 8, .agg #[.int .i64 sl, .int .i64 ol, .int .i64 nw, .int .i64 is, .int .i64 os]] w fun e w' => e = .returned (.agg #[.int .i64 1, .int .i64 1, .int .i64 (-1)]) ∧ Below w.heap.size w w' := by
  go_enter Try.func77, Try.ntmps77
  go_wp2_with fail
  exact bodyPost_ret (v := .agg #[.int .i64 1, .int .i64 1, .int .i64 (-1)]) (results_cell_row (P := Try.prog) rfl _ _ (w.heap.size + 1) 109 #[.int .i64 1, .int .i64 1, .int .i64 (-1)] (0, 0) _ rfl (heap_alloc2_new _ _ _) Try.underlying109 rfl (by kernel_rfl)) rfl ⟨rfl, ((Below.refl _ _).alloc (Nat.le_refl _) _).alloc (by simp) _⟩
set_option maxHeartbeats 1000000 in
theorem eff_9 (sl ol nw is os : Int) (w : World) : Calls Try.prog 77 #[.int .i64 9, .agg #[.int .i64 sl, .int .i64 ol, .int .i64 nw, .int .i64 is, .int .i64 os]] w fun e w' => e = .returned (.agg #[.int .i64 2, .int .i64 1, .int .i64 (-1)]) ∧ Below w.heap.size w w' := by
  go_enter Try.func77, Try.ntmps77
  go_wp2_with fail
  exact bodyPost_ret (v := .agg #[.int .i64 2, .int .i64 1, .int .i64 (-1)]) (results_cell_row (P := Try.prog) rfl _ _ (w.heap.size + 1) 109 #[.int .i64 2, .int .i64 1, .int .i64 (-1)] (0, 0) _ rfl (heap_alloc2_new _ _ _) Try.underlying109 rfl (by kernel_rfl)) rfl ⟨rfl, ((Below.refl _ _).alloc (Nat.le_refl _) _).alloc (by simp) _⟩
set_option maxHeartbeats 1000000 in
theorem eff_10 (sl ol nw is os : Int) (w : World) : Calls Try.prog 77 #[.int .i64 10, .agg #[.int .i64 sl, .int .i64 ol, .int .i64 nw, .int .i64 is, .int .i64 os]] w fun e w' => e = .returned (.agg #[.int .i64 0, .int .i64 0, .int .i64 (-1)]) ∧ Below w.heap.size w w' := by
  go_enter Try.func77, Try.ntmps77
  go_wp2_with fail
  exact bodyPost_ret (v := .agg #[.int .i64 0, .int .i64 0, .int .i64 (-1)]) (results_cell_row (P := Try.prog) rfl _ _ (w.heap.size + 1) 109 #[.int .i64 0, .int .i64 0, .int .i64 (-1)] (0, 0) _ rfl (heap_alloc2_new _ _ _) Try.underlying109 rfl (by kernel_rfl)) rfl ⟨rfl, ((Below.refl _ _).alloc (Nat.le_refl _) _).alloc (by simp) _⟩
set_option maxHeartbeats 1000000 in
theorem eff_11 (sl ol nw is os : Int) (w : World) : Calls Try.prog 77 #[.int .i64 11, .agg #[.int .i64 sl, .int .i64 ol, .int .i64 nw, .int .i64 is, .int .i64 os]] w fun e w' => e = .returned (.agg #[.int .i64 1, .int .i64 0, .int .i64 (-1)]) ∧ Below w.heap.size w w' := by
  go_enter Try.func77, Try.ntmps77
  go_wp2_with fail
  exact bodyPost_ret (v := .agg #[.int .i64 1, .int .i64 0, .int .i64 (-1)]) (results_cell_row (P := Try.prog) rfl _ _ (w.heap.size + 1) 109 #[.int .i64 1, .int .i64 0, .int .i64 (-1)] (0, 0) _ rfl (heap_alloc2_new _ _ _) Try.underlying109 rfl (by kernel_rfl)) rfl ⟨rfl, ((Below.refl _ _).alloc (Nat.le_refl _) _).alloc (by simp) _⟩
set_option maxHeartbeats 1000000 in
theorem eff_x (op sl ol nw is os : Int) (h : ¬ (1 ≤ op ∧ op ≤ 11)) (w : World) : Calls Try.prog 77 #[.int .i64 op, .agg #[.int .i64 sl, .int .i64 ol, .int .i64 nw, .int .i64 is, .int .i64 os]] w fun e w' => e = .returned (.agg #[.int .i64 0, .int .i64 0, .int .i64 (-1)]) ∧ Below w.heap.size w w' := by
  have b1 : (op == 1) = false := by simp; omega
  have b2 : (op == 2) = false := by simp; omega
  have b3 : (op == 3) = false := by simp; omega
  have b4 : (op == 4) = false := by simp; omega
  have b5 : (op == 5) = false := by simp; omega
  have b6 : (op == 6) = false := by simp; omega
  have b7 : (op == 7) = false := by simp; omega
  have b8 : (op == 8) = false := by simp; omega
  have b9 : (op == 9) = false := by simp; omega
  have b10 : (op == 10) = false := by simp; omega
  have b11 : (op == 11) = false := by simp; omega
  clear h
  go_enter Try.func77, Try.ntmps77
  go_wp2_with fail
  exact bodyPost_ret (v := .agg #[.int .i64 0, .int .i64 0, .int .i64 (-1)]) (results_cell_row (P := Try.prog) rfl _ _ (w.heap.size + 1) 109 #[.int .i64 0, .int .i64 0, .int .i64 (-1)] (0, 0) _ rfl (heap_alloc2_new _ _ _) Try.underlying109 rfl (by kernel_rfl)) rfl ⟨rfl, ((Below.refl _ _).alloc (Nat.le_refl _) _).alloc (by simp) _⟩
theorem effectOf (op : Int) (f : Ju.Fr) (w : World) : Calls Try.prog 77 #[.int .i64 op, frAgg f] w fun e w' => e = .returned (effAgg op f) ∧ Below w.heap.size w w' := by
  by_cases h : 1 ≤ op ∧ op ≤ 11
  · rcases (show op = 1 ∨ op = 2 ∨ op = 3 ∨ op = 4 ∨ op = 5 ∨ op = 6 ∨ op = 7 ∨ op = 8 ∨ op = 9 ∨ op = 10 ∨ op = 11 by omega) with rfl | rfl | rfl | rfl | rfl | rfl | rfl | rfl | rfl | rfl | rfl
    · exact eff_1 _ _ _ _ _ w
    · exact eff_2 _ _ _ _ _ w
    · exact eff_3 _ _ _ _ _ w
    · exact eff_4 _ _ _ _ _ w
    · exact eff_5 _ _ _ _ _ w
    · exact eff_6 _ _ _ _ _ w
    · exact eff_7 _ _ _ _ _ w
    · exact eff_8 _ _ _ _ _ w
    · exact eff_9 _ _ _ _ _ w
    · exact eff_10 _ _ _ _ _ w
    · exact eff_11 _ _ _ _ _ w
  · have e : effAgg op f = .agg #[.int .i64 0, .int .i64 0, .int .i64 (-1)] := by
      obtain ⟨z1, z2, z3⟩ := eff_none h f
      unfold effAgg
      rw [z1, z2, z3]
    rw [e]
    exact eff_x op _ _ _ _ _ h w
end Go.Proofs.Ytjhopgmionpkoaa
namespace Go.Proofs.Ytjhopgmionpkoaa
set_option maxRecDepth 20000
open Go.RowKit Mem

/-- the cells of the places -/
def cellOf (s : Ju.St) (j : Nat) : Value :=
  match s (j / 3) with
  | none => if j % 3 = 0 then .bool false else .int .i64 0
  | some v => if j % 3 = 0 then .bool true else if j % 3 = 1 then .int .i64 v.1 else .int .i64 v.2
def plCells (n : Nat) (s : Ju.St) : Array Value := ((List.range (3 * (n + 1))).map (cellOf s)).toArray
theorem pl_get (n : Nat) (s : Ju.St) (j : Nat) (h : j < 3 * (n + 1)) : (plCells n s)[j]? = some (cellOf s j) := by
  unfold plCells
  rw [List.getElem?_toArray, List.getElem?_map, List.getElem?_range h]
  rfl
theorem pl_size (n : Nat) (s : Ju.St) : (plCells n s).size = 3 * (n + 1) := by simp [plCells]
theorem pl_ext (n : Nat) (s : Ju.St) (xs : Array Value) (hs : xs.size = 3 * (n + 1)) (h : ∀ j, j < 3 * (n + 1) → xs[j]? = some (cellOf s j)) : xs = plCells n s := by
  apply Array.ext
  · rw [hs, pl_size]
  · intro i h1 h2
    have h3 := h i (by omega)
    have h4 := pl_get n s i (by omega)
    rw [Array.getElem?_eq_getElem h1] at h3
    rw [Array.getElem?_eq_getElem h2] at h4
    exact Option.some.inj (h3.trans h4.symm)
theorem cellOf_upd_ne (s : Ju.St) (t : Nat) (v : Int × Int) (j : Nat) (h : j / 3 ≠ t) : cellOf (Ju.upd s t v) j = cellOf s j := by
  unfold cellOf Ju.upd
  rw [if_neg h]
theorem cellOf_upd (s : Ju.St) (t : Nat) (v : Int × Int) : cellOf (Ju.upd s t v) (t * 3) = .bool true ∧ cellOf (Ju.upd s t v) (t * 3 + 1) = .int .i64 v.1 ∧ cellOf (Ju.upd s t v) (t * 3 + 2) = .int .i64 v.2 := by
  unfold cellOf Ju.upd
  have h0 : t * 3 / 3 = t := by omega
  have h1 : (t * 3 + 1) / 3 = t := by omega
  have h2 : (t * 3 + 2) / 3 = t := by omega
  have k0 : t * 3 % 3 = 0 := by omega
  have k1 : (t * 3 + 1) % 3 = 1 := by omega
  have k2 : (t * 3 + 2) % 3 = 2 := by omega
  simp [h0, h1, h2, k0, k1, k2]
theorem cellOf_some {s : Ju.St} {t : Nat} {v : Int × Int} (h : s t = some v) : cellOf s (t * 3) = .bool true ∧ cellOf s (t * 3 + 1) = .int .i64 v.1 ∧ cellOf s (t * 3 + 2) = .int .i64 v.2 := by
  unfold cellOf
  have h0 : t * 3 / 3 = t := by omega
  have h1 : (t * 3 + 1) / 3 = t := by omega
  have h2 : (t * 3 + 2) / 3 = t := by omega
  have k0 : t * 3 % 3 = 0 := by omega
  have k1 : (t * 3 + 1) % 3 = 1 := by omega
  have k2 : (t * 3 + 2) % 3 = 2 := by omega
  rw [h0, h1, h2, h]
  simp [k0, k1, k2]
theorem cellOf_none {s : Ju.St} {t : Nat} (h : s t = none) : cellOf s (t * 3) = .bool false ∧ cellOf s (t * 3 + 1) = .int .i64 0 ∧ cellOf s (t * 3 + 2) = .int .i64 0 := by
  unfold cellOf
  have h0 : t * 3 / 3 = t := by omega
  have h1 : (t * 3 + 1) / 3 = t := by omega
  have h2 : (t * 3 + 2) / 3 = t := by omega
  have k0 : t * 3 % 3 = 0 := by omega
  have k1 : (t * 3 + 1) % 3 = 1 := by omega
  have k2 : (t * 3 + 2) % 3 = 2 := by omega
  rw [h0, h1, h2, h]
  simp [k0, k1, k2]
theorem pl_set3 (n : Nat) (s : Ju.St) (t : Nat) (d f : Int) : (((plCells n s).setIfInBounds (t * 3) (.bool true)).setIfInBounds (t * 3 + 1) (.int .i64 d)).setIfInBounds (t * 3 + 2) (.int .i64 f) = plCells n (Ju.upd s t (d, f)) := by
  refine pl_ext n _ _ (by simp [pl_size]) (fun j hj => ?_)
  obtain ⟨u0, u1, u2⟩ := cellOf_upd s t (d, f)
  by_cases h0 : j = t * 3
  · subst h0
    rw [Array.getElem?_setIfInBounds_ne (by omega), Array.getElem?_setIfInBounds_ne (by omega), Array.getElem?_setIfInBounds_self_of_lt (by rw [pl_size]; exact hj), u0]
  · by_cases h1 : j = t * 3 + 1
    · subst h1
      rw [Array.getElem?_setIfInBounds_ne (by omega), Array.getElem?_setIfInBounds_self_of_lt (by simp [pl_size]; omega), u1]
    · by_cases h2 : j = t * 3 + 2
      · subst h2
        rw [Array.getElem?_setIfInBounds_self_of_lt (by simp [pl_size]; omega), u2]
      · rw [Array.getElem?_setIfInBounds_ne (by omega), Array.getElem?_setIfInBounds_ne (by omega), Array.getElem?_setIfInBounds_ne (by omega), pl_get n s j hj, cellOf_upd_ne s t _ j (by omega)]
theorem pl_set1 (n : Nat) (s : Ju.St) (t : Nat) (d f0 f : Int) (hs : s t = some (d, f0)) : (plCells n s).setIfInBounds (t * 3 + 2) (.int .i64 f) = plCells n (Ju.upd s t (d, f)) := by
  refine pl_ext n _ _ (by simp [pl_size]) (fun j hj => ?_)
  obtain ⟨u0, u1, u2⟩ := cellOf_upd s t (d, f)
  obtain ⟨s0, s1, s2⟩ := cellOf_some hs
  by_cases h2 : j = t * 3 + 2
  · subst h2
    rw [Array.getElem?_setIfInBounds_self_of_lt (by simp [pl_size]; omega), u2]
  · rw [Array.getElem?_setIfInBounds_ne (by omega), pl_get n s j hj]
    by_cases h0 : j = t * 3
    · subst h0; rw [u0, s0]
    · by_cases h1 : j = t * 3 + 1
      · subst h1; rw [u1, s1]
      · rw [cellOf_upd_ne s t _ j (by omega)]
/-- the walk's own cells: the places' slice, the depth and the steps told -/
def WkAt (w : World) (g0 g1 n : Nat) (top fu : Int) : Prop := w.heap[g0]? = some (.cells #[.slice (some ⟨g1, 0, none⟩) (n + 1) (n + 1), .int .i64 top, .int .i64 fu] 76 (0, 0))
def PlAt (w : World) (g1 n : Nat) (s : Ju.St) : Prop := w.heap[g1]? = some (.cells (plCells n s) 78 (0, 0))
theorem WkAt.cell {w : World} {g0 g1 n : Nat} {top fu : Int} (h : WkAt w g0 g1 n top fu) : w.cell? ⟨g0, 0, none⟩ = some (.slice (some ⟨g1, 0, none⟩) (n + 1) (n + 1)) ∧ w.cell? ⟨g0, 1, none⟩ = some (.int .i64 top) ∧ w.cell? ⟨g0, 2, none⟩ = some (.int .i64 fu) :=
  ⟨cell_of_row w g0 0 _ _ (0, 0) h, cell_of_row w g0 1 _ _ (0, 0) h, cell_of_row w g0 2 _ _ (0, 0) h⟩
theorem PlAt.cell {w : World} {g1 n : Nat} {s : Ju.St} (h : PlAt w g1 n s) (j : Nat) (hj : j < 3 * (n + 1)) : w.cell? ⟨g1, j, none⟩ = some (cellOf s j) := by
  rw [cell_of_row w g1 j _ _ (0, 0) h, pl_get n s j hj]
theorem PlAt.frozen {w : World} {g1 n : Nat} {s : Ju.St} (h : PlAt w g1 n s) (j : Nat) : w.frozen? ⟨g1, j, none⟩ = false := by simp [World.frozen?, show w.heap[g1]? = _ from h]
theorem _root_.Go.World.grownBy.set_ {w W : World} {g : Nat} (h : w.grownBy W (some g)) (j' : Nat) (v : Value) : w.grownBy (W.setCell ⟨g, j', none⟩ v) (some g) :=
  ⟨h.os, h.tape, h.output, by simpa using h.size, fun k hk hne => by
    rw [heap_setCell_other _ _ _ _ (fun e => hne (by rw [e]))]
    exact h.block k hk hne⟩
theorem _root_.Go.World.grownBy.alloc_ {w W : World} {r : Option Nat} (h : w.grownBy W r) (o : Obj) : w.grownBy (W.alloc o) r :=
  ⟨h.os, h.tape, h.output, by have := h.size; simp; omega, fun k hk hne => by
    rw [heap_alloc_old _ _ (Nat.lt_of_lt_of_le hk h.size)]
    exact h.block k hk hne⟩
theorem _root_.Go.World.grownBy.drew_ {w W : World} {r : Option Nat} (h : w.grownBy W r) : w.grownBy W.drew r :=
  ⟨h.os, h.tape, h.output, h.size, h.block⟩
set_option maxRecDepth 100000 in
set_option maxHeartbeats 4000000 in
theorem jcome (n t : Nat) (d f : Int) (s : Ju.St) (g0 g1 : Nat) (top fu : Int) (w : World) (ht : t ≤ n) (_hn : n ≤ 600) (h0 : WkAt w g0 g1 n top fu) (h1 : PlAt w g1 n s) :
    Calls Try.prog 78 #[.pointer (some ⟨g0, 0, none⟩), .int .i64 t, .int .i64 d, .int .i64 f] w fun e w' => e = .returned (.bool (Ju.come s t d f).isSome) ∧ w.grownBy w' (some g1) ∧ PlAt w' g1 n ((Ju.come s t d f).getD s) := by
  obtain ⟨k0, _, _⟩ := h0.cell
  have c0 := h1.cell (t * 3) (by omega)
  have c1 := h1.cell (t * 3 + 1) (by omega)
  have c2 := h1.cell (t * 3 + 2) (by omega)
  have z0 := h1.frozen (t * 3)
  have z1 := h1.frozen (t * 3 + 1)
  have z2 := h1.frozen (t * 3 + 2)
  have HH := Lib.hid h1
  have r0 : (0 : Int) ≤ t := by omega
  have r1 : (t : Int) < (n : Int) + 1 := by omega
  have hlt0 : g0 < w.heap.size := (Array.getElem?_eq_some_iff.1 h0).1
  have hlt1 : g1 < w.heap.size := (Array.getElem?_eq_some_iff.1 h1).1
  cases hs : s t with
  | none =>
    obtain ⟨e0, e1, e2⟩ := cellOf_none hs
    rw [e0] at c0
    rw [e1] at c1
    rw [e2] at c2
    have HC : Hid (Ju.come s t d f = some (Ju.upd s t (d, f))) := by unfold RowKit.Hid Ju.come; rw [hs]
    rw [HC.out]
    have HS := Lib.hid (pl_set3 n s t d f)
    clear h0 h1 e0 e1 e2 hs
    go_enter Try.func78, Try.ntmps78
    go_wp2_with fail
    go_ret
    refine ⟨rfl, ?_, ?_⟩
    · exact ((((World.grownBy.refl w _).set_ _ _).set_ _ _).set_ _ _).alloc_ _
    · refine (heap_alloc_old _ _ (by simpa using hlt1)).trans ?_
      have q0 := heap_setCell_same _ g1 (t * 3) _ _ (.bool true) HH.out
      have q1 := heap_setCell_same _ g1 (t * 3 + 1) _ _ (.int .i64 d) q0
      have q2 := heap_setCell_same _ g1 (t * 3 + 2) _ _ (.int .i64 f) q1
      rw [HS.out] at q2
      exact q2
  | some v =>
    obtain ⟨dv, fv⟩ := v
    obtain ⟨e0, e1, e2⟩ := cellOf_some hs
    rw [e0] at c0
    rw [e1] at c1
    rw [e2] at c2
    dsimp only at c1 c2
    by_cases hd : dv = d
    · subst hd
      have HC : Hid (Ju.come s t dv f = some (Ju.upd s t (dv, max fv f))) := by unfold RowKit.Hid Ju.come; rw [hs]; simp
      rw [HC.out]
      have HS := Lib.hid (pl_set1 n s t dv fv (max fv f) hs)
      clear h0 h1 e0 e1 e2 hs
      by_cases hcmp : fv < f
      · have e : max fv f = f := by rw [Int.max_def]; split <;> omega
        have q2 := heap_setCell_same _ g1 (t * 3 + 2) _ _ (.int .i64 (max fv f)) HH.out
        rw [HS.out, e] at q2
        have HQ2 := Lib.hid q2
        rw [e]
        clear q2 e HS
        go_enter Try.func78, Try.ntmps78
        go_wp2_with fail
        go_big_region
        go_wp2_with fail
        go_ret
        exact ⟨rfl, (((World.grownBy.refl w _).set_ _ _).alloc_ _).drew_, (heap_alloc_old _ _ (by simpa using hlt1)).trans HQ2.out⟩
      · have e : max fv f = fv := by rw [Int.max_def]; split <;> omega
        have q2 := heap_setCell_same _ g1 (t * 3 + 2) _ _ (.int .i64 (max fv f)) HH.out
        rw [HS.out, e] at q2
        have HQ2 := Lib.hid q2
        rw [e]
        clear q2 e HS
        go_enter Try.func78, Try.ntmps78
        go_wp2_with fail
        go_big_region
        go_wp2_with fail
        go_ret
        exact ⟨rfl, (((World.grownBy.refl w _).set_ _ _).alloc_ _).drew_, (heap_alloc_old _ _ (by simpa using hlt1)).trans HQ2.out⟩
    · have HC : Hid (Ju.come s t d f = none) := by unfold RowKit.Hid Ju.come; rw [hs]; simp [hd]
      rw [HC.out]
      clear h0 h1 e0 e1 e2 hs
      go_enter Try.func78, Try.ntmps78
      go_wp2_with fail
      go_ret
      exact ⟨rfl, (World.grownBy.refl w _).alloc_ _, (heap_alloc_old _ _ hlt1).trans HH.out⟩
end Go.Proofs.Ytjhopgmionpkoaa
namespace Go.Proofs.Ytjhopgmionpkoaa.Mem
set_option maxRecDepth 20000
open Go.RowKit

section
variable {P : Program} {a : Act} {w : World} {o : Oper}
theorem x_field {x : Operand} {t : TypeId} {f : Nat} {ad ad' : Addr} (ho : o.op = .fieldAddr t x f) (hx : a.eval x = .pointer (some ad)) (hr : (Instr.fieldAt t (.pointer (some ad)) f).run P w = .ok (.pointer (some ad')) w) : (execOp a.eval o).run P w = .ok (.value (.pointer (some ad'))) w := by
  unfold execOp
  simp only [ho, hx]
  rw [Sem.run_bind, hr]
  rfl
theorem x_nil {x : Operand} {ad : Addr} (ho : o.op = .nilCheck x) (hx : a.eval x = .pointer (some ad)) : (execOp a.eval o).run P w = .ok (.value (.pointer (some ad))) w := by
  unfold execOp
  simp only [ho, hx]
  simp [go_sem]
theorem x_load {x : Operand} {t : TypeId} {ad : Addr} {v : Value} (ho : o.op = .load t x) (hx : a.eval x = .pointer (some ad)) (hr : (Instr.loadAt t (.pointer (some ad))).run P w = .ok v w) : (execOp a.eval o).run P w = .ok (.value v) w := by
  unfold execOp
  simp only [ho, hx]
  rw [Sem.run_bind, hr]
  rfl
theorem x_index {x y : Operand} {t : TypeId} {vx vy v : Value} (ho : o.op = .indexAddr t x y) (hx : a.eval x = vx) (hy : a.eval y = vy) (hr : (Instr.indexAt t vx vy).run P w = .ok v w) : (execOp a.eval o).run P w = .ok (.value v) w := by
  unfold execOp
  simp only [ho, hx, hy]
  rw [Sem.run_bind, hr]
  rfl
theorem x_alloc {t : TypeId} {v : Value} {w' : World} (ho : o.op = .alloc t) (hr : (Instr.alloc t true (.tuple #[])).run P w = .ok v w') : (execOp a.eval o).run P w = .ok (.value v) w' := by
  unfold execOp
  simp only [ho]
  rw [Sem.run_bind, hr]
  rfl
end
end Go.Proofs.Ytjhopgmionpkoaa.Mem
namespace Go.Proofs.Ytjhopgmionpkoaa
set_option maxRecDepth 20000
open Go.RowKit Mem

set_option linter.unusedVariables false
noncomputable def jone4Ops : Array Oper := findOps 4 ((Try.f41).body.getD (.exit 0))
def jone4Slots : List (Nat × Nat) := [(0, 19), (1, 20), (2, 21), (3, 22), (4, 23), (5, 24), (6, 25), (7, 26), (8, 27), (9, 28), (10, 29)]
def jone4Ch : List (Nat × Option Nat) := [(11, some 10), (12, some 11), (13, none), (14, none)]
def jone4Val (fr : Ju.Fr) (n k : Nat) (i0 : Ia.Ins) (c0 c1 c2 : Value) (gi g0 g1 : Nat) : Nat → Value
  | 0 => .pointer (some ⟨gi, 0, none⟩)
  | 1 => .int .i64 i0.op
  | 2 => frAgg fr
  | 3 => effAgg i0.op fr
  | 4 => .pointer (some ⟨g0, 0, none⟩)
  | 5 => .pointer (some ⟨g0, 0, none⟩)
  | 6 => .pointer (some ⟨g0, 0, none⟩)
  | 7 => .slice (some ⟨g1, 0, none⟩) (n + 1) (n + 1)
  | 8 => .int .i64 (k : Int)
  | 9 => .pointer (some ⟨g1, k * 3, none⟩)
  | _ => .agg #[c0, c1, c2]
def RowIn (w : World) (B : Nat) (v : Value) (t : TypeId) (cs : Array Value) : Prop := ∃ g, v = .pointer (some ⟨g, 0, none⟩) ∧ B ≤ g ∧ w.heap[g]? = some (.cells cs t (0, 0))
theorem RowIn.below {w w' : World} {B : Nat} {v : Value} {t : TypeId} {cs : Array Value} (h : RowIn w B v t cs) (hb : Below w.heap.size w w') : RowIn w' B v t cs := by
  obtain ⟨g, e, hg, hh⟩ := h
  exact ⟨g, e, hg, (hb.block _ (Array.getElem?_eq_some_iff.1 hh).1).trans hh⟩
theorem RowIn.ne {w : World} {B : Nat} {v : Value} {t : TypeId} {cs : Array Value} (h : RowIn w B v t cs) : v ≠ .pointer (some ⟨w.heap.size, 0, none⟩) := by
  obtain ⟨g, rfl, hg, hh⟩ := h
  have := (Array.getElem?_eq_some_iff.1 hh).1
  intro e
  injection e with e
  injection e with e
  injection e with e
  omega
theorem RowIn.set_ {w : World} {B g : Nat} {v : Value} {t : TypeId} {cs : Array Value} (h : RowIn w B v t cs) (hne : v ≠ .pointer (some ⟨g, 0, none⟩)) (xs : Array Value) : RowIn (w.setRow g xs) B v t cs := by
  obtain ⟨g', rfl, hg, hh⟩ := h
  refine ⟨g', rfl, hg, ?_⟩
  rw [setRow_other _ _ _ _ (fun e => hne (by rw [e]))]
  exact hh
def Jone4C (B : Nat) (E Pc : Array Value) (L : Nat → Bool) (vs : Nat → Value) (w : World) : Prop :=
  B ≤ w.heap.size ∧ (L 13 = true → L 11 = true) ∧ (L 14 = true → L 12 = true) ∧
  (L 11 = true → RowIn w B (vs 10) 109 (if L 13 = true then E else #[.int .i64 0, .int .i64 0, .int .i64 0])) ∧
  (L 12 = true → RowIn w B (vs 11) 78 (if L 14 = true then Pc else #[.bool false, .int .i64 0, .int .i64 0])) ∧
  (L 11 = true → L 12 = true → vs 10 ≠ vs 11)
theorem jone4Region {Q : Exit → Act → World → Prop} (a0 : Act) (W0 : World) (hs : 29 < a0.tmps.size) (fr : Ju.Fr) (n k : Nat) (i0 : Ia.Ins) (c0 c1 c2 : Value) (gi gf g0 g1 : Nat) (top fu : Int) (hk : k ≤ n) (hone : c0.oneCell' = true ∧ c1.oneCell' = true ∧ c2.oneCell' = true) (hi0 : W0.heap[gi]? = some (.cells #[.int .i64 i0.op, .int .i32 i0.n] 67 (0, 0))) (hf0 : W0.heap[gf]? = some (.cells #[.int .i64 fr.sl, .int .i64 fr.ol, .int .i64 fr.nw, .int .i64 fr.is, .int .i64 fr.os] 24 (0, 0))) (hw0 : WkAt W0 g0 g1 n top fu) (k0 : W0.cell? ⟨g1, k * 3, none⟩ = some c0) (k1 : W0.cell? ⟨g1, k * 3 + 1, none⟩ = some c1) (k2 : W0.cell? ⟨g1, k * 3 + 2, none⟩ = some c2)
    (e0 : a0.eval (.tmp 0) = .pointer (some ⟨g0, 0, none⟩))
    (e2 : a0.eval (.tmp 2) = .int .i64 (k : Int))
    (e5 : a0.eval (.tmp 5) = .pointer (some ⟨gi, 0, none⟩))
    (e7 : a0.eval (.tmp 7) = .pointer (some ⟨gf, 0, none⟩))
    (hQ : ∀ (vs : Nat → Value) w, Below W0.heap.size W0 w → (Jone4C W0.heap.size #[.int .i64 (Ju.takes i0.op), .int .i64 (Ju.gives i0.op), .int .i64 (Ju.room i0.op fr)] #[c0, c1, c2]) (fun _ => true) vs w → Q .normal (jone4Slots.foldl (fun x p => x.put (some p.2) ((jone4Val fr n k i0 c0 c1 c2 gi g0 g1) p.1)) ([10, 11].foldl (fun x d => x.put (some d) (vs d)) a0)) w) :
    wpAny Try.prog .any jone4Ops Q 15 (Array.replicate 15 false) a0 W0.drew := by
  have ok : slotsFix jone4Slots a0.tmps.size = true := by
    have : ∀ z, 29 < z → slotsFix jone4Slots z = true := by
      intro z hz
      simp [slotsFix, jone4Slots]
      try omega
    exact this _ hs
  have okc : chainOk jone4Slots jone4Ch a0.tmps.size = true := by
    have : ∀ z, 29 < z → chainOk jone4Slots jone4Ch z = true := by
      intro z hz
      simp [chainOk, jone4Slots, jone4Ch]
      try omega
    exact this _ hs
  have li : gi < W0.heap.size := (Array.getElem?_eq_some_iff.1 hi0).1
  have lf : gf < W0.heap.size := (Array.getElem?_eq_some_iff.1 hf0).1
  have lw : g0 < W0.heap.size := (Array.getElem?_eq_some_iff.1 hw0).1
  have l1 : g1 < W0.heap.size := World.block_lt_of_cell? _ _ k0
  have r0 : (0 : Int) ≤ k := by omega
  have r1 : (k : Int) < (n : Int) + 1 := by omega
  have hsz : (Try.prog.info? 109).map (·.size) = some 3 := by kernel_rfl
  have hszp : (Try.prog.info? 78).map (·.size) = some 3 := by kernel_rfl
  have hE1 : (#[.int .i64 (Ju.takes i0.op), .int .i64 (Ju.gives i0.op), .int .i64 (Ju.room i0.op fr)] : Array Value).all (·.oneCell') = true := by simp [Value.oneCell']
  have hP1 : (#[c0, c1, c2] : Array Value).all (·.oneCell') = true := by simp [hone.1, hone.2.1, hone.2.2]
  refine region_chain (by kernel_rfl) W0 a0 jone4Slots (jone4Val fr n k i0 c0 c1 c2 gi g0 g1) jone4Ch (Jone4C W0.heap.size #[.int .i64 (Ju.takes i0.op), .int .i64 (Ju.gives i0.op), .int .i64 (Ju.room i0.op fr)] #[c0, c1, c2]) ok okc 15 (by kernel_rfl) (by kernel_rfl) (by kernel_rfl) (fun L L' vs w h hc => by have h11 := h (11, some 10) (by decide); have h12 := h (12, some 11) (by decide); have h13 := h (13, none) (by decide); have h14 := h (14, none) (by decide); unfold Jone4C at *; simp only [← h11, ← h12, ← h13, ← h14]; exact hc) (fun L vs w w' hc hb => by obtain ⟨a0, a1, a2, a3, a4, a5⟩ := hc; exact ⟨Nat.le_trans a0 hb.size, a1, a2, fun x => (a3 x).below hb, fun x => (a4 x).below hb, a5⟩) (by refine ⟨Nat.le_refl _, fun h => ?_, fun h => ?_, fun h => ?_, fun h => ?_, fun h => ?_⟩ <;> cases h) ?_ (fun vs w hb hc => hQ vs w hb hc)
  intro a1 i L a w hev h hc hi hf hneed
  replace e0 := (hev 0 rfl).trans e0
  replace e2 := (hev 2 rfl).trans e2
  replace e5 := (hev 5 rfl).trans e5
  replace e7 := (hev 7 rfl).trans e7
  rcases (show i = 0 ∨ i = 1 ∨ i = 2 ∨ i = 3 ∨ i = 4 ∨ i = 5 ∨ i = 6 ∨ i = 7 ∨ i = 8 ∨ i = 9 ∨ i = 10 ∨ i = 11 ∨ i = 12 ∨ i = 13 ∨ i = 14 by omega) with rfl | rfl | rfl | rfl | rfl | rfl | rfl | rfl | rfl | rfl | rfl | rfl | rfl | rfl | rfl
  · refine .inl ?_
    exact fix_value (i := 0) (d := 19) rfl (wanted_none rfl) rfl (by decide) (x_field rfl ((h.old rfl).trans e5) (by simp [go_sem]))
  · refine .inl ?_
    exact fix_value (i := 1) (d := 20) rfl (wanted_none rfl) rfl (by decide) (x_load rfl (h.get 0 19 (by decide) (hneed 0 (by kernel_rfl))) (by have hh := (h.below.block _ li).trans hi0; have hh0 : w.cell? ⟨gi, 0, none⟩ = some (.int .i64 i0.op) := cell_of_row w gi 0 _ _ (0, 0) hh; simp [go_sem, hh0]; rfl))
  · refine .inl ?_
    exact fix_value (i := 2) (d := 21) rfl (wanted_none rfl) rfl (by decide) (x_load_row (cs := [.int .i64 fr.sl, .int .i64 fr.ol, .int .i64 fr.nw, .int .i64 fr.is, .int .i64 fr.os]) (n := 5) rfl ((h.old rfl).trans e7) ((h.below.block _ lf).trans hf0) Try.underlying24 rfl (by kernel_rfl) rfl)
  · refine .inl ?_
    refine fix_call (i := 3) (d := 22) 77 Try.f77 #[.tmp 20, .tmp 21] _ #[.int .i64 i0.op, frAgg fr] rfl (wanted_none rfl) rfl (by decide) rfl (by simp [(h.get 1 20 (by decide) (hneed 1 (by kernel_rfl))), (h.get 2 21 (by decide) (hneed 2 (by kernel_rfl))), jone4Val]) Try.func77 (by kernel_rfl) (by kernel_rfl) ?_
    exact effectOf i0.op fr w
  · refine .inl ?_
    exact fix_value (i := 4) (d := 23) rfl (wanted_none rfl) rfl (by decide) (x_move rfl ((h.old rfl).trans e0))
  · refine .inl ?_
    exact fix_value (i := 5) (d := 24) rfl (wanted_none rfl) rfl (by decide) (x_nil rfl (h.get 4 23 (by decide) (hneed 4 (by kernel_rfl))))
  · refine .inl ?_
    exact fix_value (i := 6) (d := 25) rfl (wanted_none rfl) rfl (by decide) (x_field rfl (h.get 5 24 (by decide) (hneed 5 (by kernel_rfl))) (by simp [go_sem]))
  · refine .inl ?_
    exact fix_value (i := 7) (d := 26) rfl (wanted_none rfl) rfl (by decide) (x_load rfl (h.get 6 25 (by decide) (hneed 6 (by kernel_rfl))) (by have hh := (h.below.block _ lw).trans hw0; have hh0 : w.cell? ⟨g0, 0, none⟩ = some (.slice (some ⟨g1, 0, none⟩) (n + 1) (n + 1)) := cell_of_row w g0 0 _ _ (0, 0) hh; simp [go_sem, hh0]; rfl))
  · refine .inl ?_
    exact fix_value (i := 8) (d := 27) rfl (wanted_none rfl) rfl (by decide) (x_move rfl ((h.old rfl).trans e2))
  · refine .inl ?_
    exact fix_value (i := 9) (d := 28) rfl (wanted_none rfl) rfl (by decide) (x_index rfl (h.get 7 26 (by decide) (hneed 7 (by kernel_rfl))) (h.get 8 27 (by decide) (hneed 8 (by kernel_rfl))) (by show (Instr.indexAt 74 (.slice (some ⟨g1, 0, none⟩) (n + 1) (n + 1)) (.int .i64 (k : Int))).run Try.prog w = .ok (.pointer (some ⟨g1, k * 3, none⟩)) w; simp [go_sem, r0, r1]))
  · refine .inl ?_
    exact fix_value (i := 10) (d := 29) rfl (wanted_none rfl) rfl (by decide) (x_load rfl (h.get 9 28 (by decide) (hneed 9 (by kernel_rfl))) (by have y0 := (h.below.cell (p := ⟨g1, k * 3, none⟩) l1).trans k0; have y1 := (h.below.cell (p := ⟨g1, k * 3 + 1, none⟩) l1).trans k1; have y2 := (h.below.cell (p := ⟨g1, k * 3 + 2, none⟩) l1).trans k2; simp [go_sem, y0, y1, y2]; rfl))
  · refine .inr ?_
    obtain ⟨a0, a1', a2, a3, a4, a5⟩ := hc
    simp only [] at a1' a2 a3 a4 a5
    have f13 : L.getD 13 false = false := by
      cases hq : L.getD 13 false with
      | false => rfl
      | true => rw [a1' hq] at hf; cases hf
    refine ⟨some 10, by decide, ch_value (i := 11) (v := .pointer (some ⟨w.heap.size, 0, none⟩)) (w' := w.alloc (.cells #[.int .i64 0, .int .i64 0, .int .i64 0] 109)) rfl (wanted_none rfl) (x_alloc rfl (by simp [go_sem])) ⟨_, rfl, h.below.alloc a0 _, ?_⟩⟩
    have hba : Below w.heap.size w (w.alloc (.cells #[.int .i64 0, .int .i64 0, .int .i64 0] 109)) := (Below.refl _ _).alloc (Nat.le_refl _) _
    refine ⟨Nat.le_trans a0 hba.size, fun _ => rfl, fun hh => ?_, fun _ => ?_, fun hh => ?_, fun _ hh => ?_⟩
    · simp only [Nat.reduceEqDiff, if_false] at hh ⊢; exact a2 hh
    · simp only [Nat.reduceEqDiff, if_false, if_true, f13]
      exact ⟨w.heap.size, rfl, a0, heap_alloc_new _ _⟩
    · simp only [Nat.reduceEqDiff, if_false, Option.some.injEq] at hh ⊢
      exact (a4 hh).below hba
    · simp only [Nat.reduceEqDiff, if_false, if_true, Option.some.injEq] at hh ⊢
      exact fun e => (a4 hh).ne e.symm
  · refine .inr ?_
    obtain ⟨a0, a1', a2, a3, a4, a5⟩ := hc
    simp only [] at a1' a2 a3 a4 a5
    have f14 : L.getD 14 false = false := by
      cases hq : L.getD 14 false with
      | false => rfl
      | true => rw [a2 hq] at hf; cases hf
    refine ⟨some 11, by decide, ch_value (i := 12) (v := .pointer (some ⟨w.heap.size, 0, none⟩)) (w' := w.alloc (.cells #[.bool false, .int .i64 0, .int .i64 0] 78)) rfl (wanted_none rfl) (x_alloc rfl (by simp [go_sem])) ⟨_, rfl, h.below.alloc a0 _, ?_⟩⟩
    have hba : Below w.heap.size w (w.alloc (.cells #[.bool false, .int .i64 0, .int .i64 0] 78)) := (Below.refl _ _).alloc (Nat.le_refl _) _
    refine ⟨Nat.le_trans a0 hba.size, fun hh => ?_, fun _ => rfl, fun hh => ?_, fun _ => ?_, fun hh _ => ?_⟩
    · simp only [Nat.reduceEqDiff, if_false] at hh ⊢; exact a1' hh
    · simp only [Nat.reduceEqDiff, if_false, Option.some.injEq] at hh ⊢
      exact (a3 hh).below hba
    · simp only [Nat.reduceEqDiff, if_false, if_true, f14]
      exact ⟨w.heap.size, rfl, a0, heap_alloc_new _ _⟩
    · simp only [Nat.reduceEqDiff, if_false, if_true, Option.some.injEq] at hh ⊢
      exact (a3 hh).ne
  · refine .inr ?_
    obtain ⟨a0, a1', a2, a3, a4, a5⟩ := hc
    simp only [] at a1' a2 a3 a4 a5
    have n11 := hneed 11 (by kernel_rfl)
    have hr := a3 n11
    rw [if_neg (by rw [hf]; decide)] at hr
    obtain ⟨g, eg, hg, hh⟩ := hr
    refine ⟨none, by decide, ch_oper (i := 13) rfl (wanted_none rfl) ?_⟩
    refine wp_store_row _ _ _ rfl g #[.int .i64 (Ju.takes i0.op), .int .i64 (Ju.gives i0.op), .int .i64 (Ju.room i0.op fr)] ((h.old rfl).trans eg) (h.get 3 22 (by decide) (hneed 3 (by kernel_rfl))) _ _ hh (by rw [hsz]; rfl) rfl hE1 ?_
    refine ⟨undef, rfl, below_setRow_ h.below hg, ?_⟩
    have hs13 : ∀ j, j ≠ 13 → (if j = 13 then true else L.getD j false) = L.getD j false := fun j hj => if_neg hj
    refine ⟨by rw [size_setRow]; exact a0, fun _ => n11, fun hh => a2 hh, fun _ => ?_, fun hh2 => ?_, fun x y => a5 x y⟩
    · exact ⟨g, eg, hg, setRow_heap _ _ _ _ _ _ hh⟩
    · exact (a4 hh2).set_ (fun e => a5 n11 hh2 (eg.trans e.symm)) _
  · refine .inr ?_
    obtain ⟨a0, a1', a2, a3, a4, a5⟩ := hc
    simp only [] at a1' a2 a3 a4 a5
    have n12 := hneed 12 (by kernel_rfl)
    have hr := a4 n12
    rw [if_neg (by rw [hf]; decide)] at hr
    obtain ⟨g, eg, hg, hh⟩ := hr
    refine ⟨none, by decide, ch_oper (i := 14) rfl (wanted_none rfl) ?_⟩
    refine wp_store_row _ _ _ rfl g #[c0, c1, c2] ((h.old rfl).trans eg) (h.get 10 29 (by decide) (hneed 10 (by kernel_rfl))) _ _ hh (by rw [hszp]; rfl) rfl hP1 ?_
    refine ⟨undef, rfl, below_setRow_ h.below hg, ?_⟩
    refine ⟨by rw [size_setRow]; exact a0, fun hh => a1' hh, fun _ => n12, fun hh2 => ?_, fun _ => ?_, fun x y => a5 x y⟩
    · exact (a3 hh2).set_ (fun e => a5 hh2 n12 (e.trans eg.symm)) _
    · exact ⟨g, eg, hg, setRow_heap _ _ _ _ _ _ hh⟩
end Go.Proofs.Ytjhopgmionpkoaa
