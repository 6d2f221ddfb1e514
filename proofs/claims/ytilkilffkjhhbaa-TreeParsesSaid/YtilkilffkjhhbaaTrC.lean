/-
  Which expressions have what their kinds have: form, formed and Right; numbered, shape, shapes and Right of the reference.
-/
import Derived.Test.YtilkilffkjhhbaaTrA
import Derived.BigQuiet
import Derived.Deep.QuietTactic
namespace Go.Proofs.Ytilkilffkjhhbaa
set_option maxRecDepth 20000
set_option linter.unusedVariables false
open Go.RowKit Tr

def formV (k : Int) : Value :=
  match form k with
  | none => .tuple #[.int .i64 0, .int .i32 0, .int .i32 0, .bool false, .bool false]
  | some (p, lo, hi, nm) => .tuple #[.int .i64 (p : Int), .int .i32 lo, .int .i32 hi, .bool nm, .bool true]
theorem form_not {k : Int} (h : ¬ (k = 1 ∨ k = 2 ∨ k = 3 ∨ k = 4 ∨ k = 5 ∨ k = 6 ∨ k = 7 ∨ k = 8 ∨ k = 9 ∨ k = 10)) : form k = none := by
  simp only [not_or] at h
  obtain ⟨h1, h2, h3, h4, h5, h6, h7, h8, h9, ha⟩ := h
  simp only [form, h1, h2, h3, h4, h5, h6, h7, h8, h9, ha, if_false]
theorem ne_of {k : Int} (i : Int) (h : k ≠ i) : (k == i) = false := by simp [h]
theorem kinds (k : Int) : (k = 1 ∨ k = 2 ∨ k = 3 ∨ k = 4 ∨ k = 5 ∨ k = 6 ∨ k = 7 ∨ k = 8 ∨ k = 9 ∨ k = 10) ∨ (form k = none ∧ (k == 1) = false ∧ (k == 2) = false ∧ (k == 3) = false ∧ (k == 4) = false ∧ (k == 5) = false ∧ (k == 6) = false ∧ (k == 7) = false ∧ (k == 8) = false ∧ (k == 9) = false ∧ (k == 10) = false) := by
  by_cases h : k = 1 ∨ k = 2 ∨ k = 3 ∨ k = 4 ∨ k = 5 ∨ k = 6 ∨ k = 7 ∨ k = 8 ∨ k = 9 ∨ k = 10
  · exact .inl h
  · refine .inr ⟨form_not h, ?_, ?_, ?_, ?_, ?_, ?_, ?_, ?_, ?_, ?_⟩ <;> exact ne_of _ (fun e => h (by simp [e]))
set_option maxHeartbeats 4000000 in
theorem form_any (k : Int) (w : World) : Calls Try.prog 94 #[.int .i64 k] w fun e w' => e = .returned (formV k) ∧ w = w' := by
  rcases kinds k with h | ⟨hf, h1, h2, h3, h4, h5, h6, h7, h8, h9, ha⟩
  · rcases h with rfl | rfl | rfl | rfl | rfl | rfl | rfl | rfl | rfl | rfl
    · have HV : Hid (formV 1 = .tuple #[.int .i64 0, .int .i32 0, .int .i32 2147483647, .bool false, .bool true]) := rfl
      go_enter Try.func94, Try.ntmps94
      go_wp2
      exact bodyPost_ret (v := .tuple #[.int .i64 0, .int .i32 0, .int .i32 2147483647, .bool false, .bool true]) (by simp [results, Try.results94, go_sem]) rfl ⟨by rw [HV.out], rfl⟩
    · have HV : Hid (formV 2 = .tuple #[.int .i64 0, .int .i32 0, .int .i32 1, .bool false, .bool true]) := rfl
      go_enter Try.func94, Try.ntmps94
      go_wp2
      exact bodyPost_ret (v := .tuple #[.int .i64 0, .int .i32 0, .int .i32 1, .bool false, .bool true]) (by simp [results, Try.results94, go_sem]) rfl ⟨by rw [HV.out], rfl⟩
    · have HV : Hid (formV 3 = .tuple #[.int .i64 0, .int .i32 0, .int .i32 0, .bool true, .bool true]) := rfl
      go_enter Try.func94, Try.ntmps94
      go_wp2
      exact bodyPost_ret (v := .tuple #[.int .i64 0, .int .i32 0, .int .i32 0, .bool true, .bool true]) (by simp [results, Try.results94, go_sem]) rfl ⟨by rw [HV.out], rfl⟩
    · have HV : Hid (formV 4 = .tuple #[.int .i64 1, .int .i32 1, .int .i32 2, .bool false, .bool true]) := rfl
      go_enter Try.func94, Try.ntmps94
      go_wp2
      exact bodyPost_ret (v := .tuple #[.int .i64 1, .int .i32 1, .int .i32 2, .bool false, .bool true]) (by simp [results, Try.results94, go_sem]) rfl ⟨by rw [HV.out], rfl⟩
    · have HV : Hid (formV 5 = .tuple #[.int .i64 2, .int .i32 1, .int .i32 16, .bool false, .bool true]) := rfl
      go_enter Try.func94, Try.ntmps94
      go_wp2
      exact bodyPost_ret (v := .tuple #[.int .i64 2, .int .i32 1, .int .i32 16, .bool false, .bool true]) (by simp [results, Try.results94, go_sem]) rfl ⟨by rw [HV.out], rfl⟩
    · have HV : Hid (formV 6 = .tuple #[.int .i64 3, .int .i32 0, .int .i32 0, .bool false, .bool true]) := rfl
      go_enter Try.func94, Try.ntmps94
      go_wp2
      exact bodyPost_ret (v := .tuple #[.int .i64 3, .int .i32 0, .int .i32 0, .bool false, .bool true]) (by simp [results, Try.results94, go_sem]) rfl ⟨by rw [HV.out], rfl⟩
    · have HV : Hid (formV 7 = .tuple #[.int .i64 2, .int .i32 0, .int .i32 0, .bool false, .bool true]) := rfl
      go_enter Try.func94, Try.ntmps94
      go_wp2
      exact bodyPost_ret (v := .tuple #[.int .i64 2, .int .i32 0, .int .i32 0, .bool false, .bool true]) (by simp [results, Try.results94, go_sem]) rfl ⟨by rw [HV.out], rfl⟩
    · have HV : Hid (formV 8 = .tuple #[.int .i64 1, .int .i32 0, .int .i32 0, .bool true, .bool true]) := rfl
      go_enter Try.func94, Try.ntmps94
      go_wp2
      exact bodyPost_ret (v := .tuple #[.int .i64 1, .int .i32 0, .int .i32 0, .bool true, .bool true]) (by simp [results, Try.results94, go_sem]) rfl ⟨by rw [HV.out], rfl⟩
    · have HV : Hid (formV 9 = .tuple #[.int .i64 1, .int .i32 0, .int .i32 0, .bool true, .bool true]) := rfl
      go_enter Try.func94, Try.ntmps94
      go_wp2
      exact bodyPost_ret (v := .tuple #[.int .i64 1, .int .i32 0, .int .i32 0, .bool true, .bool true]) (by simp [results, Try.results94, go_sem]) rfl ⟨by rw [HV.out], rfl⟩
    · have HV : Hid (formV 10 = .tuple #[.int .i64 2, .int .i32 0, .int .i32 0, .bool true, .bool true]) := rfl
      go_enter Try.func94, Try.ntmps94
      go_wp2
      exact bodyPost_ret (v := .tuple #[.int .i64 2, .int .i32 0, .int .i32 0, .bool true, .bool true]) (by simp [results, Try.results94, go_sem]) rfl ⟨by rw [HV.out], rfl⟩
  · have HV : Hid (formV k = .tuple #[.int .i64 0, .int .i32 0, .int .i32 0, .bool false, .bool false]) := by unfold RowKit.Hid formV; rw [hf]
    clear hf
    go_enter Try.func94, Try.ntmps94
    go_wp2
    exact bodyPost_ret (v := .tuple #[.int .i64 0, .int .i32 0, .int .i32 0, .bool false, .bool false]) (by simp [results, Try.results94, go_sem]) rfl ⟨by rw [HV.out], rfl⟩
def formedTo (s : List Ex) (k : Nat) : Prop := ∀ j (hj : j < s.length), j < k → formed (s[j]'hj) = true
theorem formeds_of : ∀ (s : List Ex), (∀ j (hj : j < s.length), formed (s[j]'hj) = true) → formeds s = true
  | [], _ => formeds_nil
  | x :: r, h => by
    have h0 := h 0 (by simp)
    simp only [List.getElem_cons_zero] at h0
    rw [formeds_cons, h0, formeds_of r fun j hj => by have := h (j + 1) (by simpa using hj); simpa only [List.getElem_cons_succ] using this]
    rfl
theorem formeds_not {s : List Ex} {j : Nat} (hj : j < s.length) (h : formed (s[j]'hj) = false) : formeds s = false := by
  rcases hs : formeds s with _ | _
  · rfl
  · rw [formeds_mem hs (List.getElem_mem hj)] at h; cases h
set_option maxHeartbeats 8000000 in
theorem formed_any (B : Nat → Prop) : ∀ (c : Nat) (x : Ex), size x ≤ c → ∀ (A : Option Addr) (cap : Nat) (w : World), At w B x A → Fit x →
    Calls Try.prog 58 #[exAgg x A cap] w fun e w' => e = .returned (.bool (formed x)) ∧ Below w.heap.size w w' := by
  intro c
  induction c with
  | zero => intro x h; have := size_pos x; omega
  | succ c ih =>
    intro x hc A cap w hA hfit
    obtain ⟨k, n, m, s⟩ := x
    rw [at_eq] at hA
    rw [fit_eq] at hfit
    rw [size_eq] at hc
    have HA := Lib.hid hA
    have hs := hfit.2.2.1
    have HM := Lib.hid hfit.2.1
    have HF := Lib.hid hfit.2.2.2
    have IH := Lib.hid ih
    obtain ⟨r, hr⟩ : ∃ r, r = formed (.mk k n m s) := ⟨_, rfl⟩
    rw [← hr]
    rw [formed_eq] at hr
    clear hA hfit ih
    unfold exAgg
    dsimp only [Ex.kind, Ex.n, Ex.name, Ex.sub]
    unfold maxLen at hs
    rcases hform : form k with _ | ⟨p, lo, hi, nm⟩
    · have hR : r = false := by rw [hr]; unfold Tr.shape; rw [hform]; rfl
      subst hR
      have HV : Hid (formV k = .tuple #[.int .i64 0, .int .i32 0, .int .i32 0, .bool false, .bool false]) := by unfold RowKit.Hid formV; rw [hform]
      clear hr hform
      go_enter Try.func58, Try.ntmps58
      go_wp2_with fail
      refine (form_any k _).mono ?_
      rintro e w' ⟨rfl, rfl⟩
      rw [HV.out]
      go_wp2_with fail
      go_ret
      exact ⟨rfl, (Below.refl _ _).alloc (Nat.le_refl _) _⟩
    have hsh : Tr.shape k n m s.length = (s.length == p && decide (lo ≤ n) && decide (n ≤ hi) && (if nm = true then Lx.isName m else m == [])) := by unfold Tr.shape; rw [hform]
    rw [hsh] at hr
    have HV : Hid (formV k = .tuple #[.int .i64 (p : Int), .int .i32 lo, .int .i32 hi, .bool nm, .bool true]) := by unfold RowKit.Hid formV; rw [hform]
    clear hsh hform
    by_cases h1 : s.length = p
    rotate_left
    · have hR : r = false := by rw [hr]; simp [h1]
      subst hR
      have f1 : ((s.length : Int) != (p : Int)) = true := by simp; omega
      clear hr h1
      go_enter Try.func58, Try.ntmps58
      go_wp2_with fail
      refine (form_any k _).mono ?_
      rintro e w' ⟨rfl, rfl⟩
      rw [HV.out]
      go_wp2_with fail
      go_ret
      exact ⟨rfl, (Below.refl _ _).alloc (Nat.le_refl _) _⟩
    have f1 : ((s.length : Int) != (p : Int)) = false := by simp [h1]
    have H1 := Lib.hid h1
    clear h1
    by_cases h2 : lo ≤ n
    rotate_left
    · have hR : r = false := by rw [hr]; simp [h2]
      subst hR
      clear hr
      go_enter Try.func58, Try.ntmps58
      go_wp2_with fail
      refine (form_any k _).mono ?_
      rintro e w' ⟨rfl, rfl⟩
      rw [HV.out]
      go_wp2_with fail
      go_ret
      exact ⟨rfl, (Below.refl _ _).alloc (Nat.le_refl _) _⟩
    by_cases h3 : n ≤ hi
    rotate_left
    · have hR : r = false := by rw [hr]; simp [h3]
      subst hR
      clear hr
      go_enter Try.func58, Try.ntmps58
      go_wp2_with fail
      refine (form_any k _).mono ?_
      rintro e w' ⟨rfl, rfl⟩
      rw [HV.out]
      go_wp2_with fail
      go_ret
      exact ⟨rfl, (Below.refl _ _).alloc (Nat.le_refl _) _⟩
    have hr2 : r = ((if nm = true then Lx.isName m else m == []) && formeds s) := by rw [hr]; simp [H1.out, h2, h3]
    clear hr
    have HNE : Hid (∀ e : m = [], Lx.isName m = false) := fun e => by subst e; rfl
    obtain ⟨q, hq⟩ : ∃ q, q = Lx.isName m := ⟨_, rfl⟩
    rw [← hq] at hr2 HNE
    have HQ := Lib.hid hq
    clear hq
    have HNM : Hid (∀ W, Calls Try.prog 75 #[.string ⟨m.toArray⟩] W fun e w' => e = .returned (.bool q) ∧ Below W.heap.size W w') := fun W => by rw [HQ.out]; exact lexname m HM.out W
    have key : (nm = q ∧ (nm = true ∨ m = []) ∧ r = formeds s) ∨ (nm ≠ q ∧ r = false) ∨ (nm = q ∧ nm = false ∧ m ≠ [] ∧ r = false) := by
      cases nm
      · rw [if_neg (by decide)] at hr2
        by_cases hm : m = []
        · left; exact ⟨(HNE.out hm).symm, .inr hm, by rw [hr2, hm]; simp⟩
        · cases q
          · right; right; exact ⟨rfl, rfl, hm, by rw [hr2]; simp [hm]⟩
          · right; left; exact ⟨by decide, by rw [hr2]; simp [hm]⟩
      · rw [if_pos rfl] at hr2
        cases q
        · right; left; exact ⟨by decide, by rw [hr2]; rfl⟩
        · left; exact ⟨rfl, .inl rfl, by rw [hr2]; simp⟩
    clear hr2 HQ HNE
    rcases key with ⟨rfl, hnm, hr2⟩ | ⟨hne, rfl⟩ | ⟨rfl, rfl, hm, rfl⟩
    · have HR := Lib.hid hr2
      clear hr2
      rcases hnm with rfl | rfl
      all_goals
        go_enter Try.func58, Try.ntmps58
        go_wp2_with fail
        refine (form_any k _).mono ?_
        rintro e w' ⟨rfl, rfl⟩
        rw [HV.out]
        go_wp2_with fail
        refine (HNM.out _).mono ?_
        rintro e w0 ⟨rfl, hb0⟩
        have hc3 : w0.cell? ⟨w.heap.size, 3, none⟩ = some (.slice A s.length cap) := (hb0.cell (p := ⟨w.heap.size, 3, none⟩) (by simp)).trans (by simp [go_sem])
        have HB0 := Lib.hid (((Below.refl w.heap.size w).alloc (Nat.le_refl _) (.cells #[.int .i64 k, .int .i32 n, .string ⟨List.toArray _⟩, .slice A s.length cap] 43)).trans (hb0.mono (by simp)))
        first
          | (cases nm; all_goals (have hc2 : w0.cell? ⟨w.heap.size, 2, none⟩ = some (.string ⟨#[]⟩) := (hb0.cell (p := ⟨w.heap.size, 2, none⟩) (by simp)).trans (by simp [go_sem])))
          | skip
        all_goals clear hb0
        all_goals
          go_wp2_with fail
          go_loopw [59] (fun i wr => ∃ j : Nat, j ≤ s.length ∧ i = .int .i64 j ∧ Hid (formedTo s j) ∧ Below w.heap.size w wr) (fun i _ => s.length - (intOf i).toNat)
          case atStart => exact ⟨0, Nat.zero_le _, rfl, fun j _ h => absurd h (Nat.not_lt_zero _), HB0.out⟩
          case round =>
            obtain ⟨j, hj, rfl, HS, hb⟩ := hrel
            by_cases hlt : j < s.length
            · obtain ⟨b, off, A', c', rfl, hbl, c0, c1, c2, c3, hx⟩ := HA.out.in_ hb j hlt
              have HFX := Lib.hid (HF.out.mem (List.getElem_mem hlt))
              have hsz := size_mem (List.getElem_mem hlt)
              have HNX : Hid (formed (s[j]'hlt) = true → formedTo s (j + 1)) := fun hs1 i hi hlt1 => by
                rcases Nat.lt_or_ge i j with h | h
                · exact HS.out i hi h
                · obtain rfl : i = j := by omega
                  exact hs1
              have HNO : Hid (formed (s[j]'hlt) = false → r = false) := fun h => by rw [HR.out, formeds_not hlt h]
              generalize hy : s[j]'hlt = y at *
              have HX := Lib.hid hx
              have HC := Lib.hid (fun W h => IH.out y (by omega) A' c' W h HFX.out)
              clear hx hy
              rcases hq : formed y with _ | _
              · have hR := HNO.out hq
                subst hR
                rw [hq] at HC
                clear hq
                go_wp2_with fail
                refine (HC.out _ (HX.out.below ((Below.refl _ _).alloc (Nat.le_refl _) _) (Nat.le_refl _))).mono ?_
                rintro e w1 ⟨rfl, hb1⟩
                have HB1 := Lib.hid ((hb.alloc hb.size _).trans (hb1.mono (by have := hb.size; simp; omega)))
                clear hb1
                go_wp2_with fail
                go_ret
                exact ⟨rfl, HB1.out⟩
              · have HN := Lib.hid (HNX.out hq)
                rw [hq] at HC
                clear hq
                go_wp2_with fail
                refine (HC.out _ (HX.out.below ((Below.refl _ _).alloc (Nat.le_refl _) _) (Nat.le_refl _))).mono ?_
                rintro e w1 ⟨rfl, hb1⟩
                have HB1 := Lib.hid ((hb.alloc hb.size _).trans (hb1.mono (by have := hb.size; simp; omega)))
                clear hb1
                go_wp2_with fail
                go_roundw
                case rel => exact ⟨j + 1, by omega, by go_num, HN, HB1.out⟩
                case measure => simp [intOf]; omega
            · obtain rfl : j = s.length := by omega
              have hR : r = true := by rw [HR.out]; exact formeds_of s fun i hi => HS.out i hi hi
              subst hR
              go_wp2_with fail
              go_ret
              exact ⟨rfl, hb⟩
    · cases nm <;> cases q <;> (first | exact absurd rfl hne | skip)
      all_goals
        go_enter Try.func58, Try.ntmps58
        go_wp2_with fail
        refine (form_any k _).mono ?_
        rintro e w' ⟨rfl, rfl⟩
        rw [HV.out]
        go_wp2_with fail
        refine (HNM.out _).mono ?_
        rintro e w0 ⟨rfl, hb0⟩
        have HB0 := Lib.hid (((Below.refl w.heap.size w).alloc (Nat.le_refl _) (.cells #[.int .i64 k, .int .i32 n, .string ⟨m.toArray⟩, .slice A s.length cap] 43)).trans (hb0.mono (by simp)))
        clear hb0
        go_wp2_with fail
        go_ret
        exact ⟨rfl, HB0.out⟩
    · have g1 : (!m.isEmpty) = true := by simpa using hm
      have g2 : m.isEmpty = false := by simpa using hm
      clear hm
      go_enter Try.func58, Try.ntmps58
      go_wp2_with fail
      refine (form_any k _).mono ?_
      rintro e w' ⟨rfl, rfl⟩
      rw [HV.out]
      go_wp2_with fail
      refine (HNM.out _).mono ?_
      rintro e w0 ⟨rfl, hb0⟩
      have hc2 : w0.cell? ⟨w.heap.size, 2, none⟩ = some (.string ⟨m.toArray⟩) := (hb0.cell (p := ⟨w.heap.size, 2, none⟩) (by simp)).trans (by simp [go_sem])
      have HB0 := Lib.hid (((Below.refl w.heap.size w).alloc (Nat.le_refl _) (.cells #[.int .i64 k, .int .i32 n, .string ⟨m.toArray⟩, .slice A s.length cap] 43)).trans (hb0.mono (by simp)))
      clear hb0
      go_wp2_with fail
      go_ret
      exact ⟨rfl, HB0.out⟩
end Go.Proofs.Ytilkilffkjhhbaa
