/-
  A region that draws its order, makes one row and stores into it; every other operation's value is the same in whatever order.
-/
import Derived.Test.YtlfbpcjeohbfkaaRegFix
namespace Go.Proofs.Ytlfbpcjeohbfkaa.Mem
open Go.RowKit

def ownMade (slots : List (Nat × Nat)) (md : Nat) (j : Nat) : Bool := j == md || (slots.map (·.2)).contains j
theorem region_made {P : Program} {ops : Array Oper} {Q : Exit → Act → World → Prop} (hdep : depOk ops = true) (W0 : World) (a0 : Act) (slots : List (Nat × Nat)) (val : Nat → Value) (mi ms si sv sd : Nat) (t ty : TypeId) (Z V : Array Value)
    (ok : slotsOk (ownMade slots ms) slots mi ms si a0.tmps.size = true) (hall : slots.all (fun p => decide (p.1 < ops.size)) = true) (n : Nat) (hn : ops.size = n) (hmn : mi < n) (hsn : si < n)
    (halloc : ∃ o, ops[mi]? = some o ∧ o.guard = none ∧ o.dst = some ms ∧ o.op = .alloc t) (hrun : ∀ w, (Instr.alloc t true (.tuple #[])).run P w = .ok (.pointer (some ⟨w.heap.size, 0, none⟩)) (w.alloc (.cells Z t)))
    (hstore : ∃ o, ops[si]? = some o ∧ o.guard = none ∧ o.dst = none ∧ o.op = .store ty (.tmp ms) (.tmp sd)) (hsm : (sv, sd) ∈ slots) (hval : val sv = .agg V) (hi : (P.info? ty).map (·.size) = some V.size) (hZV : Z.size = V.size) (hV1 : V.all (·.oneCell') = true)
    (hsneed : ((ops[si]?).map fun o => o.after.any fun e => Region.binds .any e && e.on == mi) = some true) (hsneed2 : ((ops[si]?).map fun o => o.after.any fun e => Region.binds .any e && e.on == sv) = some true)
    (step : ∀ i L a w, Rg W0 a0 (ownMade slots ms) slots val mi ms si t V.size V L a w → i < n → i ≠ mi → i ≠ si → (∀ on, ((ops[i]?).map fun o => o.after.any fun e => Region.binds .any e && e.on == on) = some true → L.getD on false = true) → FixOp P ops Q val slots i a w)
    (hQ : ∀ w g, Below W0.heap.size W0 w → W0.heap.size ≤ g → w.heap[g]? = some (.cells V t (0, 0)) → Q .normal (slots.foldl (fun x p => x.put (some p.2) (val p.1)) (a0.put (some ms) (.pointer (some ⟨g, 0, none⟩)))) w) :
    wpAny P .any ops Q n (Array.replicate n false) a0 W0.drew := by
  subst hn
  refine wpAny_gen (Rg W0 a0 (ownMade slots ms) slots val mi ms si t V.size V) hdep ?_ ?_ ops.size _ a0 W0.drew (by simp) (by simp) ⟨rfl, rfl, fun _ _ => rfl, (Below.refl _ _).drew, fun p _ hL => ?_, fun hL => ?_, fun hL => ?_⟩
  · intro i L a w h hL hi' hf hneed
    by_cases e1 : i = mi
    · subst e1
      obtain ⟨o, ho, hg, hd, hop⟩ := halloc
      refine wpOp_of ho hg (wp_alloc_ _ _ hop (hrun w) ?_)
      rw [hd]
      exact h.made ok hf _ hZV
    · by_cases e2 : i = si
      · subst e2
        obtain ⟨o, ho, hg, hd, hop⟩ := hstore
        have hm : L.getD mi false = true := hneed mi hsneed
        have h1 := (h.get sv sd hsm (hneed sv hsneed2)).trans hval
        obtain ⟨g, k1, k2, Z', k3, k4, k5⟩ := h.m hm
        refine wpOp_of ho hg (wp_store_row _ _ _ hop g _ k1 h1 _ _ k3 hi k4 hV1 ?_)
        rw [hd]
        exact h.stored ok hm k1 rfl
      · obtain ⟨d, hm, hw⟩ := step i L a w h hi' e1 e2 hneed
        refine wpOp_mono ?_ hw
        rintro a' w' ⟨rfl, hb⟩
        exact (h.world hb).put ok i d hm
  · intro L a w hL hL2 h
    obtain ⟨g, k1, k2, Z', k3, k4, k5⟩ := h.m (hL2 _ hmn)
    obtain rfl := k5 (hL2 _ hsn)
    have e := put_form (ms :: slots.map (·.2)) a0 h.sz h.df (fun j hj => h.rest j (by
      simp only [List.mem_cons, not_or] at hj
      unfold ownMade
      cases hc : (slots.map (·.2)).contains j with
      | false => simp [hj.1]
      | true => exact absurd (List.contains_iff_mem.1 hc) hj.2))
    have hall' : ∀ p ∈ slots, a.eval (.tmp p.2) = val p.1 := fun p hp => h.f p hp (hL2 _ (by simpa using List.all_eq_true.1 hall p hp))
    rw [e, List.foldl_cons, foldl_vals a val slots _ hall', k1]
    exact hQ w g h.below k2 k3
  · simp [Array.getD] at hL
  · simp [Array.getD] at hL
  · simp [Array.getD] at hL
section
variable {P : Program} {a : Act} {w : World} {o : Oper}
theorem x_extract {x : Operand} {k : Nat} {xs : Array Value} {v : Value} (ho : o.op = .extract x k) (hx : a.eval x = .tuple xs) (hk : xs[k]? = some v) : (execOp a.eval o).run P w = .ok (.value v) w := by
  unfold execOp
  simp only [ho, hx]
  simp [Instr.extract, hk, go_sem]
theorem x_add {x y : Operand} {t t2 : TypeId} {k : IntKind} {n m : Int} (ho : o.op = .binOp .add t x y t2) (hx : a.eval x = .int k n) (hy : a.eval y = .int k m) (hw : k.wrap (n + m) = n + m) : (execOp a.eval o).run P w = .ok (.value (.int k (n + m))) w := by
  unfold execOp
  simp only [ho, hx, hy]
  simp [eqGuard, go_sem, hw]
end
end Go.Proofs.Ytlfbpcjeohbfkaa.Mem
