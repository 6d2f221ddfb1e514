/-
  The reference's decl and Literal.
-/
import Derived.Test.YtilkilffkjhhbaaTrRb
namespace Go.Proofs.Ytilkilffkjhhbaa
set_option maxRecDepth 20000
set_option linter.unusedVariables false
open Go.RowKit Tr Mem

set_option maxHeartbeats 4000000 in
theorem refdecl_any (v : Vr) (h1 : v.name.length ≤ 100000) (h2 : v.cn.length ≤ 100000) (w : World) :
    Calls Try.prog 52 #[varAgg v] w fun e w' => e = .returned (.string ⟨(declared v).toArray⟩) ∧ Below w.heap.size w w' := by
  obtain ⟨nm, ty, ck, cn⟩ := v
  dsimp only at h1 h2
  have HW0 : Hid (∀ V, Below w.heap.size w (w.alloc V)) := fun V => (Below.refl _ _).alloc (Nat.le_refl _) V
  obtain ⟨r, hr⟩ : ∃ r, r = declared ⟨nm, ty, ck, cn⟩ := ⟨_, rfl⟩
  rw [← hr]
  unfold declared at hr
  dsimp only at hr
  have HR := Lib.hid hr
  clear hr
  have AP := fun a b => ba_append a b
  unfold varAgg
  dsimp only
  rcases ht : (ty == 2) with _ | _ <;> rcases hk1 : (ck == 1) with _ | _ <;> rcases hk2 : (ck == 2) with _ | _
  all_goals first | (exfalso; simp at hk1 hk2; omega) | skip
  all_goals
    go_enter Try.func52, Try.ntmps52
    go_wp2_with fail
    go_ret
    refine ⟨ret_str ?_, HW0.out _⟩
    rw [HR.out]
    simp at ht hk1 hk2
    simp [ht, hk1, hk2, wWhen, wUnless]
set_option maxHeartbeats 4000000 in
theorem refliteral_any (x : Ex) (B : Nat → Prop) (A : Option Addr) (cap : Nat) (w : World) (hA : At w B x A) (hfit : Fit x) :
    Calls Try.prog 73 #[exAgg x A cap] w fun e w' => e = .returned (.bool (literal x)) ∧ Below w.heap.size w w' := by
  have HW0 : Hid (∀ V, Below w.heap.size w (w.alloc V)) := fun V => (Below.refl _ _).alloc (Nat.le_refl _) V
  have HA := Lib.hid hA
  have HRI := Lib.hid (fun W h => refright_any x B A cap W h hfit)
  obtain ⟨r, hr⟩ : ∃ r, r = literal x := ⟨_, rfl⟩
  rw [← hr]
  unfold literal at hr
  by_cases h0 : right x = 0
  rotate_left
  · have hne : (right x != 0) = true := by simpa using h0
    have hrr : r = false := by rw [hr]; simp [h0]
    subst hrr
    generalize right x = q at *
    unfold exAgg at *
    clear hA hr
    go_enter Try.func73, Try.ntmps73
    go_wp2_with fail
    refine (HRI.out _ (HA.out.below (HW0.out _) (Nat.le_refl _))).mono ?_
    rintro e w1 ⟨rfl, hb1⟩
    have HB1 := Lib.hid ((HW0.out _).trans (hb1.mono (by simp)))
    clear hb1
    go_wp2_with fail
    go_ret
    exact ⟨rfl, HB1.out⟩
  · have hf := form_of x (right_zero h0).2.2
    rw [h0] at hr HRI
    clear h0 hA hfit
    have HRR := Lib.hid hr
    clear hr
    have main : ∀ (k n : Int) (m : Lx.Bs) (s : List Ex), x = .mk k n m s → ((k = 1 ∧ r = true) ∨ (k = 2 ∧ r = true) ∨ (k = 4 ∧ n = 2 ∧ r = false) ∨ ((k == 1) = false ∧ (k == 2) = false ∧ (k == 4) = false ∧ r = false)) →
        Calls Try.prog 73 #[exAgg x A cap] w fun e w' => e = .returned (.bool r) ∧ Below w.heap.size w w' := by
      intro k n m s hx hk
      subst hx
      unfold exAgg at *
      dsimp only [Ex.kind, Ex.n, Ex.name, Ex.sub] at *
      rcases hk with ⟨rfl, rfl⟩ | ⟨rfl, rfl⟩ | ⟨rfl, rfl, rfl⟩ | ⟨h1, h2, h3, rfl⟩
      all_goals
        go_enter Try.func73, Try.ntmps73
        go_wp2_with fail
        refine (HRI.out _ (HA.out.below (HW0.out _) (Nat.le_refl _))).mono ?_
        rintro e w1 ⟨rfl, hb1⟩
        have HB1 := Lib.hid ((HW0.out _).trans (hb1.mono (by simp)))
        obtain ⟨k0, k1, k2, k3, -⟩ := row4 (row4_of hb1)
        clear hb1
        go_wp2_with fail
        go_ret
        exact ⟨rfl, HB1.out⟩
    cases hf with
    | num n h0 h1 => exact main _ _ _ _ rfl (.inl ⟨rfl, by rw [HRR.out]; rfl⟩)
    | tru => exact main _ _ _ _ rfl (.inr (.inl ⟨rfl, by rw [HRR.out]; rfl⟩))
    | fls => exact main _ _ _ _ rfl (.inr (.inl ⟨rfl, by rw [HRR.out]; rfl⟩))
    | var m h => exact main _ _ _ _ rfl (.inr (.inr (.inr ⟨rfl, rfl, rfl, by rw [HRR.out]; rfl⟩)))
    | not a ha => exact main _ _ _ _ rfl (.inr (.inr (.inl ⟨rfl, rfl, by rw [HRR.out]; rfl⟩)))
    | bin o h0 h1 a b ha hb => exact main _ _ _ _ rfl (.inr (.inr (.inr ⟨rfl, rfl, rfl, by rw [HRR.out]; rfl⟩)))
    | cond a b c ha hb hc => exact main _ _ _ _ rfl (.inr (.inr (.inr ⟨rfl, rfl, rfl, by rw [HRR.out]; rfl⟩)))
    | arr a b ha hb => exact main _ _ _ _ rfl (.inr (.inr (.inr ⟨rfl, rfl, rfl, by rw [HRR.out]; rfl⟩)))
    | when_ m h a ha => exact main _ _ _ _ rfl (.inr (.inr (.inr ⟨rfl, rfl, rfl, by rw [HRR.out]; rfl⟩)))
    | unless_ m h a ha => exact main _ _ _ _ rfl (.inr (.inr (.inr ⟨rfl, rfl, rfl, by rw [HRR.out]; rfl⟩)))
    | merge m h a b ha hb => exact main _ _ _ _ rfl (.inr (.inr (.inr ⟨rfl, rfl, rfl, by rw [HRR.out]; rfl⟩)))
    | neg a ha =>
      clear main
      have hrr : r = (a.kind == 1) := by rw [HRR.out]; simp [Ex.kind, Ex.n, Ex.sub]
      subst hrr
      have hat := HA.out
      rw [at_eq] at hat
      obtain ⟨b, off, rfl, -, g0, -⟩ := hat.get 0 (by simp)
      have hbl := World.block_lt_of_cell? _ _ g0
      simp only [List.getElem_cons_zero, Nat.zero_mul, Nat.add_zero] at g0 hbl
      have HG := Lib.hid g0
      clear g0 hat
      unfold exAgg at *
      dsimp only [Ex.kind, Ex.n, Ex.name, Ex.sub] at *
      go_enter Try.func73, Try.ntmps73
      go_wp2_with fail
      refine (HRI.out _ (HA.out.below (HW0.out _) (Nat.le_refl _))).mono ?_
      rintro e w1 ⟨rfl, hb1⟩
      have hb2 := (HW0.out (.cells #[.int .i64 4, .int .i32 1, .string ⟨#[]⟩, .slice (some ⟨b, off, none⟩) 1 cap] 43)).trans (hb1.mono (by simp))
      have HB1 := Lib.hid hb2
      obtain ⟨k0, k1, k2, k3, -⟩ := row4 (row4_of hb1)
      have q0 := (hb2.cell (p := ⟨b, off, none⟩) hbl).trans HG.out
      clear hb1 hb2
      go_wp2_with fail
      go_ret
      exact ⟨rfl, HB1.out⟩
end Go.Proofs.Ytilkilffkjhhbaa
