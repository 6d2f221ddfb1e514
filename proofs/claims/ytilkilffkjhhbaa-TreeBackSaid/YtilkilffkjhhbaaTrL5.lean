/-
  A program that was written is read as it was. Plain Lean, no program in sight.
-/
import Derived.Test.YtilkilffkjhhbaaTrL4
import Derived.Test.YtilkilffkjhhbaaTrL3
namespace Go.Proofs.Ytilkilffkjhhbaa.Tr
set_option maxRecDepth 20000
set_option linter.unusedVariables false

theorem back {p : Pg} (h : whole p = true) (hl : (pgText p).length ≤ 4096) : (parse (pgText p)).1 = p ∧ (parse (pgText p)).2.1 = 0 := by
  obtain ⟨h1, h2⟩ := (reads_pg h).scan hl
  have h3 := parseT_strip (Lx.scan (pgText p)).1 0 ((pgText p).length : Int)
  have e : stripL (Lx.scan (pgText p)).1 = pgT p := h2
  rw [e, parse_pgT h 0] at h3
  unfold parse
  rw [if_neg (by rw [h1]; simp)]
  exact ⟨h3.1.symm, h3.2.symm⟩
/-- of a program that is written -/
theorem print_back {p : Pg} (h : (print p).2 = 0) : (print p).1.length ≤ 4096 ∧ (parse (print p).1).1 = p ∧ (parse (print p).1).2.1 = 0 := by
  have hb := back (p := p)
  unfold print at h ⊢
  generalize pgText p = t at *
  by_cases hw : whole p = true
  · rw [if_pos hw] at h ⊢
    by_cases hl : 4096 < t.length
    · rw [if_pos hl] at h; cases h
    · rw [if_neg hl]
      exact ⟨Nat.le_of_not_lt hl, hb hw (Nat.le_of_not_lt hl)⟩
  · rw [if_neg hw] at h; cases h
theorem print_none {p : Pg} (h : (print p).2 ≠ 0) : (print p).1 = [] := by
  unfold print at h ⊢
  generalize pgText p = t at *
  by_cases hw : whole p = true
  · rw [if_pos hw] at h ⊢
    by_cases hl : 4096 < t.length
    · rw [if_pos hl]
    · rw [if_neg hl] at h; exact absurd rfl h
  · rw [if_neg hw]
end Go.Proofs.Ytilkilffkjhhbaa.Tr
