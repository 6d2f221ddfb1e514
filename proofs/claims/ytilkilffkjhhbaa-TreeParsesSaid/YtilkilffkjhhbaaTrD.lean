/-
  What is wrong of an expression: Right; numbered, shape, shapes and Right of the reference.
-/
import Derived.Test.YtilkilffkjhhbaaTrC
import Derived.Test.YtilkilffkjhhbaaTrS
namespace Go.Proofs.Ytilkilffkjhhbaa
set_option maxRecDepth 20000
set_option linter.unusedVariables false
open Go.RowKit Tr

set_option maxHeartbeats 4000000 in
theorem right_any (x : Ex) (B : Nat → Prop) (A : Option Addr) (cap : Nat) (w : World) (hA : At w B x A) (hfit : Fit x) :
    Calls Try.prog 21 #[exAgg x A cap] w fun e w' => e = .returned (.int .i64 (right x)) ∧ Below w.heap.size w w' := by
  have HA := Lib.hid hA
  obtain ⟨q, hq⟩ : ∃ q, q = min (size x) 121 := ⟨_, rfl⟩
  have HC1 : Hid (∀ W, At W B x A → Calls Try.prog 56 #[exAgg x A cap, .int .i64 121] W fun e w' => e = .returned (.int .i64 (q : Nat)) ∧ Below W.heap.size W w') := fun W h => by rw [hq]; exact count_any B 121 x 121 (Nat.le_refl _) (by decide) (by decide) A cap W h hfit
  obtain ⟨d, hd⟩ : ∃ d, d = depth x := ⟨_, rfl⟩
  have HC2 : Hid (size x ≤ 120 → ∀ W, At W B x A → Calls Try.prog 57 #[exAgg x A cap] W fun e w' => e = .returned (.int .i64 (d : Nat)) ∧ Below W.heap.size W w') := fun hs W h => by rw [hd]; exact depth_any B 120 x (by have := depth_le_size x; omega) (by decide) A cap W h hfit
  have hdd : right x = if 120 < size x then 3 else if 12 < d then 17 else if formed x then 0 else 4 := by rw [hd]; rfl
  have HC3 := Lib.hid (fun W h => formed_any B (size x) x (Nat.le_refl _) A cap W h hfit)
  obtain ⟨r, hr⟩ : ∃ r, r = right x := ⟨_, rfl⟩
  rw [← hr]
  rw [hdd] at hr
  clear hA hfit hdd
  obtain ⟨k, n, m, s⟩ := x
  generalize hxx : Ex.mk k n m s = x at *
  have HXX := Lib.hid hxx
  clear hxx
  have HAG : Hid (exAgg x A cap = .agg #[.int .i64 k, .int .i32 n, .string ⟨m.toArray⟩, .slice A s.length cap]) := by unfold RowKit.Hid; rw [← HXX.out]; rfl
  rw [HAG.out] at HC1 HC2 HC3 ⊢
  have HW0 := Lib.hid (fun V => (Below.refl w.heap.size w).alloc (Nat.le_refl _) V)
  by_cases h1 : 120 < size x
  · have hR : r = 3 := by rw [hr, if_pos h1]
    subst hR
    have hq1 : 120 < q := by omega
    clear hr h1 hq
    go_enter Try.func21, Try.ntmps21
    go_wp2_with fail
    refine (HC1.out _ (HA.out.below (HW0.out _) (Nat.le_refl _))).mono ?_
    rintro e w1 ⟨rfl, hb1⟩
    have HB := Lib.hid ((HW0.out _).trans (hb1.mono (by simp)))
    clear hb1
    go_wp2_with fail
    go_ret
    exact ⟨rfl, HB.out⟩
  have hq1 : ¬ 120 < q := by omega
  rw [if_neg h1] at hr
  have hc2 := HC2.out (by omega)
  have HC2' := Lib.hid hc2
  clear h1 hq hc2 HC2 hd
  by_cases h2 : 12 < d
  · have hR : r = 17 := by rw [hr, if_pos h2]
    subst hR
    clear hr
    go_enter Try.func21, Try.ntmps21
    go_wp2_with fail
    refine (HC1.out _ (HA.out.below (HW0.out _) (Nat.le_refl _))).mono ?_
    rintro e w1 ⟨rfl, hb1⟩
    have HB := Lib.hid ((HW0.out (.cells #[.int .i64 k, .int .i32 n, .string ⟨m.toArray⟩, .slice A s.length cap] 43)).trans (hb1.mono (by simp)))
    obtain ⟨k0, k1, k2, k3, f0, f1, f2, f3, hz, hb⟩ := below4 hb1
    clear hb1 hb f0 f1 f2 f3
    go_wp2_with fail
    refine (HC2'.out _ (HA.out.below HB.out (Nat.le_refl _))).mono ?_
    rintro e w2 ⟨rfl, hb2⟩
    have HB2 := Lib.hid (HB.out.trans (hb2.mono HB.out.size))
    clear hb2
    go_wp2_with fail
    go_ret
    exact ⟨rfl, HB2.out⟩
  rw [if_neg h2] at hr
  obtain ⟨f, hf⟩ : ∃ f, f = formed x := ⟨_, rfl⟩
  rw [← hf] at hr HC3
  clear hf
  cases f
  all_goals
    have HR := Lib.hid hr
    clear hr
    go_enter Try.func21, Try.ntmps21
    go_wp2_with fail
    refine (HC1.out _ (HA.out.below (HW0.out _) (Nat.le_refl _))).mono ?_
    rintro e w1 ⟨rfl, hb1⟩
    have HB := Lib.hid ((HW0.out (.cells #[.int .i64 k, .int .i32 n, .string ⟨m.toArray⟩, .slice A s.length cap] 43)).trans (hb1.mono (by simp)))
    obtain ⟨k0, k1, k2, k3, f0, f1, f2, f3, hz, hb⟩ := below4 hb1
    clear hb1 hb f0 f1 f2 f3
    go_wp2_with fail
    refine (HC2'.out _ (HA.out.below HB.out (Nat.le_refl _))).mono ?_
    rintro e w2 ⟨rfl, hb2⟩
    have HB2 := Lib.hid (HB.out.trans (hb2.mono HB.out.size))
    have g0 := (hb2.cell (p := ⟨w.heap.size, 0, none⟩) hz).trans k0
    have g1 := (hb2.cell (p := ⟨w.heap.size, 1, none⟩) hz).trans k1
    have g2 := (hb2.cell (p := ⟨w.heap.size, 2, none⟩) hz).trans k2
    have g3 := (hb2.cell (p := ⟨w.heap.size, 3, none⟩) hz).trans k3
    clear hb2 k0 k1 k2 k3
    go_wp2_with fail
    refine (HC3.out _ (HA.out.below HB2.out (Nat.le_refl _))).mono ?_
    rintro e w3 ⟨rfl, hb3⟩
    have HB3 := Lib.hid (HB2.out.trans (hb3.mono HB2.out.size))
    clear hb3
    go_wp2_with fail
    go_ret
    exact ⟨ret_int (by rw [HR.out]; rfl), HB3.out⟩

set_option maxHeartbeats 4000000 in
theorem refshapes_any (B : Nat → Prop) : ∀ (c : Nat) (x : Ex), size x ≤ c → ∀ (A : Option Addr) (cap : Nat) (w : World), At w B x A → Fit x →
    Calls Try.prog 60 #[exAgg x A cap] w fun e w' => e = .returned (.bool (formed x)) ∧ Below w.heap.size w w' := by
  intro c
  induction c with
  | zero => intro x h; have := size_pos x; omega
  | succ c ih =>
    intro x hc A cap w hA hfit
    obtain ⟨k, n, m, s⟩ := x
    rw [at_eq] at hA
    rw [fit_eq] at hfit
    rw [size_eq] at hc
    have HA := Lib.hid hA
    have hs := hfit.2.2.1
    have HSH := Lib.hid (fun W => refshape_any k n m s A cap W hfit.1 hfit.2.1)
    have HF := Lib.hid hfit.2.2.2
    have IH := Lib.hid ih
    obtain ⟨r, hr⟩ : ∃ r, r = formed (.mk k n m s) := ⟨_, rfl⟩
    rw [← hr]
    rw [formed_eq] at hr
    obtain ⟨q, hq⟩ : ∃ q, q = Tr.shape k n m s.length := ⟨_, rfl⟩
    rw [← hq] at HSH hr
    clear hA hfit ih hq
    unfold exAgg
    dsimp only [Ex.kind, Ex.n, Ex.name, Ex.sub]
    unfold maxLen at hs
    have HW0 := Lib.hid (fun V => (Below.refl w.heap.size w).alloc (Nat.le_refl _) V)
    cases q
    · rw [Bool.false_and] at hr
      subst hr
      go_enter Try.func60, Try.ntmps60
      go_wp2_with fail
      refine (HSH.out _).mono ?_
      rintro e w1 ⟨rfl, hb1⟩
      have HB := Lib.hid ((HW0.out (.cells #[.int .i64 k, .int .i32 n, .string ⟨m.toArray⟩, .slice A s.length cap] 43)).trans (hb1.mono (by simp)))
      obtain ⟨k0, k1, k2, k3, f0, f1, f2, f3, hz, hb⟩ := below4 hb1
      clear hb1 hb f0 f1 f2 f3
      go_wp2_with fail
      refine wp_loop_rounds 2 ?_
      rw [rounds_succ]
      rcases Nat.eq_zero_or_pos s.length with h0 | h0
      · have b1 : ¬ (0 : Int) < (s.length : Int) := by omega
        go_wp2_with fail
        go_ret
        exact ⟨rfl, HB.out⟩
      · have b1 : (0 : Int) < (s.length : Int) := by omega
        go_wp2_with fail
        go_ret
        exact ⟨rfl, HB.out⟩
    · rw [Bool.true_and] at hr
      have HR := Lib.hid hr
      clear hr
      go_enter Try.func60, Try.ntmps60
      go_wp2_with fail
      refine (HSH.out _).mono ?_
      rintro e w1 ⟨rfl, hb1⟩
      have HB := Lib.hid ((HW0.out (.cells #[.int .i64 k, .int .i32 n, .string ⟨m.toArray⟩, .slice A s.length cap] 43)).trans (hb1.mono (by simp)))
      obtain ⟨k0, k1, k2, k3, f0, f1, f2, f3, hz, hb⟩ := below4 hb1
      clear hb1 hb f0 f1 f2 f3
      go_wp2_with fail
      go_loopw [3, 4] (fun q i wr => ∃ j : Nat, j ≤ s.length ∧ i = .int .i64 j ∧ (∃ b : Bool, q = .bool b ∧ Hid ((b = true ∧ formedTo s j) ∨ (b = false ∧ r = false))) ∧ Below w.heap.size w wr ∧ wr.cell? ⟨w.heap.size, 3, none⟩ = some (.slice A s.length cap) ∧ w.heap.size < wr.heap.size) (fun _ i _ => s.length - (intOf i).toNat)
      case atStart => exact ⟨0, Nat.zero_le _, rfl, ⟨true, rfl, .inl ⟨rfl, fun j _ h => absurd h (Nat.not_lt_zero _)⟩⟩, HB.out, k3, hz⟩
      case round =>
        obtain ⟨j, hj, rfl, ⟨b, rfl, HS⟩, hb, e3, hzz⟩ := hrel
        rcases HS.out with ⟨rfl, hS⟩ | ⟨rfl, rfl⟩
        · have HS1 := Lib.hid hS
          clear hS HS
          by_cases hlt : j < s.length
          · obtain ⟨b, off, A', c', rfl, hbl, c0, c1, c2, c3, hx⟩ := HA.out.in_ hb j hlt
            have HFX := Lib.hid (HF.out.mem (List.getElem_mem hlt))
            have hsz := size_mem (List.getElem_mem hlt)
            have HNX : Hid ((formed (s[j]'hlt) = true ∧ formedTo s (j + 1)) ∨ (formed (s[j]'hlt) = false ∧ r = false)) := by
              rcases hq : formed (s[j]'hlt) with _ | _
              · exact .inr ⟨rfl, by rw [HR.out, formeds_not hlt hq]⟩
              · refine .inl ⟨rfl, fun i hi hlt1 => ?_⟩
                rcases Nat.lt_or_ge i j with h | h
                · exact HS1.out i hi h
                · obtain rfl : i = j := by omega
                  exact hq
            generalize hy : s[j]'hlt = y at *
            have HX := Lib.hid hx
            have HC := Lib.hid (fun W h => IH.out y (by omega) A' c' W h HFX.out)
            clear hx hy
            go_wp2_with fail
            refine (HC.out _ HX.out).mono ?_
            rintro e w2 ⟨rfl, hb2⟩
            have HB1 := Lib.hid (hb.trans (hb2.mono hb.size))
            have e4 := (hb2.cell (p := ⟨w.heap.size, 3, none⟩) hzz).trans e3
            have hz2 := Nat.lt_of_lt_of_le hzz hb2.size
            clear hb2
            go_wp2_with fail
            go_roundw
            case rel => exact ⟨j + 1, by omega, by go_num, ⟨_, rfl, HNX⟩, HB1.out, e4, hz2⟩
            case measure => simp [intOf]; omega
          · obtain rfl : j = s.length := by omega
            have hR : r = true := by rw [HR.out]; exact formeds_of s fun i hi => HS1.out i hi hi
            subst hR
            go_wp2_with fail
            go_ret
            exact ⟨rfl, hb⟩
        · by_cases hlt : j < s.length
          all_goals
            go_wp2_with fail
            go_ret
            exact ⟨rfl, hb⟩
set_option maxHeartbeats 4000000 in
theorem refright_any (x : Ex) (B : Nat → Prop) (A : Option Addr) (cap : Nat) (w : World) (hA : At w B x A) (hfit : Fit x) :
    Calls Try.prog 24 #[exAgg x A cap] w fun e w' => e = .returned (.int .i64 (right x)) ∧ Below w.heap.size w w' := by
  have HA := Lib.hid hA
  obtain ⟨q, hq⟩ : ∃ q, q = min (size x) 121 := ⟨_, rfl⟩
  have HC1 : Hid (∀ W, At W B x A → Calls Try.prog 20 #[exAgg x A cap, .int .i64 121] W fun e w' => e = .returned (.int .i64 (q : Nat)) ∧ Below W.heap.size W w') := fun W h => by rw [hq]; exact refparts_any B 121 x 121 (Nat.le_refl _) (by decide) (by decide) A cap W h hfit
  obtain ⟨d, hd⟩ : ∃ d, d = min (depth x) 13 := ⟨_, rfl⟩
  have HC2 : Hid (∀ W, At W B x A → Calls Try.prog 59 #[exAgg x A cap, .int .i64 13] W fun e w' => e = .returned (.int .i64 (d : Nat)) ∧ Below W.heap.size W w') := fun W h => by rw [hd]; exact refdeep_any B 13 x 13 (Nat.le_refl _) (by decide) (by decide) A cap W h hfit
  have HC3 := Lib.hid (fun W h => refshapes_any B (size x) x (Nat.le_refl _) A cap W h hfit)
  obtain ⟨r, hr⟩ : ∃ r, r = right x := ⟨_, rfl⟩
  rw [← hr]
  unfold right at hr
  clear hA hfit
  obtain ⟨k, n, m, s⟩ := x
  generalize hxx : Ex.mk k n m s = x at *
  have HXX := Lib.hid hxx
  clear hxx
  have HAG : Hid (exAgg x A cap = .agg #[.int .i64 k, .int .i32 n, .string ⟨m.toArray⟩, .slice A s.length cap]) := by unfold RowKit.Hid; rw [← HXX.out]; rfl
  rw [HAG.out] at HC1 HC2 HC3 ⊢
  have HW0 := Lib.hid (fun V => (Below.refl w.heap.size w).alloc (Nat.le_refl _) V)
  by_cases h1 : 120 < size x
  · have hR : r = 3 := by rw [hr, if_pos h1]
    subst hR
    have hq1 : 120 < q := by omega
    clear hr h1 hq hd
    go_enter Try.func24, Try.ntmps24
    go_wp2_with fail
    refine (HC1.out _ (HA.out.below (HW0.out _) (Nat.le_refl _))).mono ?_
    rintro e w1 ⟨rfl, hb1⟩
    have HB := Lib.hid ((HW0.out _).trans (hb1.mono (by simp)))
    clear hb1
    go_wp2_with fail
    go_ret
    exact ⟨rfl, HB.out⟩
  have hq1 : ¬ 120 < q := by omega
  rw [if_neg h1] at hr
  clear h1 hq
  by_cases h2 : 12 < depth x
  · have hR : r = 17 := by rw [hr, if_pos h2]
    subst hR
    have hd1 : 12 < d := by omega
    clear hr h2 hd
    go_enter Try.func24, Try.ntmps24
    go_wp2_with fail
    refine (HC1.out _ (HA.out.below (HW0.out _) (Nat.le_refl _))).mono ?_
    rintro e w1 ⟨rfl, hb1⟩
    have HB := Lib.hid ((HW0.out (.cells #[.int .i64 k, .int .i32 n, .string ⟨m.toArray⟩, .slice A s.length cap] 43)).trans (hb1.mono (by simp)))
    obtain ⟨k0, k1, k2, k3, f0, f1, f2, f3, hz, hb⟩ := below4 hb1
    clear hb1 hb f0 f1 f2 f3
    go_wp2_with fail
    refine (HC2.out _ (HA.out.below HB.out (Nat.le_refl _))).mono ?_
    rintro e w2 ⟨rfl, hb2⟩
    have HB2 := Lib.hid (HB.out.trans (hb2.mono HB.out.size))
    clear hb2
    go_wp2_with fail
    go_ret
    exact ⟨rfl, HB2.out⟩
  have hd1 : ¬ 12 < d := by omega
  rw [if_neg h2] at hr
  clear h2 hd
  obtain ⟨f, hf⟩ : ∃ f, f = formed x := ⟨_, rfl⟩
  rw [← hf] at hr HC3
  clear hf
  cases f
  all_goals
    have HR := Lib.hid hr
    clear hr
    go_enter Try.func24, Try.ntmps24
    go_wp2_with fail
    refine (HC1.out _ (HA.out.below (HW0.out _) (Nat.le_refl _))).mono ?_
    rintro e w1 ⟨rfl, hb1⟩
    have HB := Lib.hid ((HW0.out (.cells #[.int .i64 k, .int .i32 n, .string ⟨m.toArray⟩, .slice A s.length cap] 43)).trans (hb1.mono (by simp)))
    obtain ⟨k0, k1, k2, k3, f0, f1, f2, f3, hz, hb⟩ := below4 hb1
    clear hb1 hb f0 f1 f2 f3
    go_wp2_with fail
    refine (HC2.out _ (HA.out.below HB.out (Nat.le_refl _))).mono ?_
    rintro e w2 ⟨rfl, hb2⟩
    have HB2 := Lib.hid (HB.out.trans (hb2.mono HB.out.size))
    have g0 := (hb2.cell (p := ⟨w.heap.size, 0, none⟩) hz).trans k0
    have g1 := (hb2.cell (p := ⟨w.heap.size, 1, none⟩) hz).trans k1
    have g2 := (hb2.cell (p := ⟨w.heap.size, 2, none⟩) hz).trans k2
    have g3 := (hb2.cell (p := ⟨w.heap.size, 3, none⟩) hz).trans k3
    clear hb2 k0 k1 k2 k3
    go_wp2_with fail
    refine (HC3.out _ (HA.out.below HB2.out (Nat.le_refl _))).mono ?_
    rintro e w3 ⟨rfl, hb3⟩
    have HB3 := Lib.hid (HB2.out.trans (hb3.mono HB2.out.size))
    clear hb3
    go_wp2_with fail
    go_ret
    exact ⟨ret_int (by rw [HR.out]; rfl), HB3.out⟩
end Go.Proofs.Ytilkilffkjhhbaa
