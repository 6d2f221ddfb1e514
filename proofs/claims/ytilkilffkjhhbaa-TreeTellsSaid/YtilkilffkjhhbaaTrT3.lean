/-
  TreeTells' drawn statement of the sameness.
-/
import Derived.Test.YtilkilffkjhhbaaTrLn
import Derived.Test.YtilkilffkjhhbaaRegAcc
import Derived.Test.YtilkilffkjhhbaaRgn
namespace Go.Proofs.Ytilkilffkjhhbaa
set_option maxRecDepth 20000
set_option linter.unusedVariables false
open Go.RowKit Mem

set_option linter.unusedVariables false
noncomputable def tl3Ops : Array Oper := findOps 3 ((Try.f10).body.getD (.exit 0))
def tl3Slots : List (Nat × Nat) := [(0, 16), (1, 17), (2, 18), (3, 19), (4, 20), (5, 21), (6, 22), (7, 23), (8, 24), (9, 25), (11, 27), (12, 28), (13, 5)]
def tl3Ch : List (Nat × Option Nat) := [(10, some 26)]
def tl3Val (gp gq : Nat) (pp qq : Tr.Pg) (LL N : Lie) (s : Bool) : Nat → Value
  | 0 => .agg #[.string ⟨pp.name.toArray⟩, .slice LL.ai pp.ins.length LL.ci, .slice LL.ao pp.outs.length LL.co, .slice LL.al pp.locals.length LL.cl, .slice LL.ae pp.eqs.length LL.ce]
  | 1 => .agg #[.string ⟨qq.name.toArray⟩, .slice N.ai qq.ins.length N.ci, .slice N.ao qq.outs.length N.co, .slice N.al qq.locals.length N.cl, .slice N.ae qq.eqs.length N.ce]
  | 2 => .bool s
  | 3 => .agg #[.string ⟨pp.name.toArray⟩, .slice LL.ai pp.ins.length LL.ci, .slice LL.ao pp.outs.length LL.co, .slice LL.al pp.locals.length LL.cl, .slice LL.ae pp.eqs.length LL.ce]
  | 4 => .agg #[.string ⟨qq.name.toArray⟩, .slice N.ai qq.ins.length N.ci, .slice N.ao qq.outs.length N.co, .slice N.al qq.locals.length N.cl, .slice N.ae qq.eqs.length N.ce]
  | 5 => .bool s
  | 6 => .bool true
  | 7 => .bool true
  | 8 => .agg #[.string ⟨pp.name.toArray⟩, .slice LL.ai pp.ins.length LL.ci, .slice LL.ao pp.outs.length LL.co, .slice LL.al pp.locals.length LL.cl, .slice LL.ae pp.eqs.length LL.ce]
  | 9 => .agg #[.string ⟨pp.name.toArray⟩, .slice LL.ai pp.ins.length LL.ci, .slice LL.ao pp.outs.length LL.co, .slice LL.al pp.locals.length LL.cl, .slice LL.ae pp.eqs.length LL.ce]
  | 11 => .bool true
  | 12 => .bool true
  | _ => .bool true
def tl3C (p : Tr.Pg) (L : Nat → Bool) (vs : Nat → Value) (w : World) : Prop := L 10 = true → ∃ M K, vs 26 = pgAgg p M ∧ PgAt w K p M
theorem tl3Region {Q : Exit → Act → World → Prop} (a0 : Act) (W0 : World) (hs : 28 < a0.tmps.size) (gp gq : Nat) (pp qq : Tr.Pg) (LL N : Lie) (s : Bool) (m0 : W0.cell? ⟨gp, 0, none⟩ = some (.string ⟨pp.name.toArray⟩)) (m1 : W0.cell? ⟨gp, 1, none⟩ = some (.slice LL.ai pp.ins.length LL.ci)) (m2 : W0.cell? ⟨gp, 2, none⟩ = some (.slice LL.ao pp.outs.length LL.co)) (m3 : W0.cell? ⟨gp, 3, none⟩ = some (.slice LL.al pp.locals.length LL.cl)) (m4 : W0.cell? ⟨gp, 4, none⟩ = some (.slice LL.ae pp.eqs.length LL.ce)) (r0 : W0.cell? ⟨gq, 0, none⟩ = some (.string ⟨qq.name.toArray⟩)) (r1 : W0.cell? ⟨gq, 1, none⟩ = some (.slice N.ai qq.ins.length N.ci)) (r2 : W0.cell? ⟨gq, 2, none⟩ = some (.slice N.ao qq.outs.length N.co)) (r3 : W0.cell? ⟨gq, 3, none⟩ = some (.slice N.al qq.locals.length N.cl)) (r4 : W0.cell? ⟨gq, 4, none⟩ = some (.slice N.ae qq.eqs.length N.ce)) (hts : ∀ W, Below W0.heap.size W0 W → Calls Try.prog 29 #[.agg #[.string ⟨pp.name.toArray⟩, .slice LL.ai pp.ins.length LL.ci, .slice LL.ao pp.outs.length LL.co, .slice LL.al pp.locals.length LL.cl, .slice LL.ae pp.eqs.length LL.ce], .agg #[.string ⟨qq.name.toArray⟩, .slice N.ai qq.ins.length N.ci, .slice N.ao qq.outs.length N.co, .slice N.al qq.locals.length N.cl, .slice N.ae qq.eqs.length N.ce]] W fun e w' => e = .returned (.bool s) ∧ Below W.heap.size W w') (hrs : ∀ W, Below W0.heap.size W0 W → Calls Try.prog 14 #[.agg #[.string ⟨pp.name.toArray⟩, .slice LL.ai pp.ins.length LL.ci, .slice LL.ao pp.outs.length LL.co, .slice LL.al pp.locals.length LL.cl, .slice LL.ae pp.eqs.length LL.ce], .agg #[.string ⟨qq.name.toArray⟩, .slice N.ai qq.ins.length N.ci, .slice N.ao qq.outs.length N.co, .slice N.al qq.locals.length N.cl, .slice N.ae qq.eqs.length N.ce]] W fun e w' => e = .returned (.bool s) ∧ Below W.heap.size W w') (hln : ∀ W, Below W0.heap.size W0 W → Calls Try.prog 16 #[.agg #[.string ⟨pp.name.toArray⟩, .slice LL.ai pp.ins.length LL.ci, .slice LL.ao pp.outs.length LL.co, .slice LL.al pp.locals.length LL.cl, .slice LL.ae pp.eqs.length LL.ce]] W fun e w' => ∃ M, e = .returned (pgAgg pp M) ∧ PgAt w' (fun b => W.heap.size ≤ b) pp M ∧ Below W.heap.size W w') (hsl : ∀ W M K, Below W0.heap.size W0 W → PgAt W K pp M → Calls Try.prog 29 #[.agg #[.string ⟨pp.name.toArray⟩, .slice LL.ai pp.ins.length LL.ci, .slice LL.ao pp.outs.length LL.co, .slice LL.al pp.locals.length LL.cl, .slice LL.ae pp.eqs.length LL.ce], pgAgg pp M] W fun e w' => e = .returned (.bool true) ∧ Below W.heap.size W w')
    (e2 : a0.eval (.tmp 2) = .pointer (some ⟨gp, 0, none⟩))
    (e3 : a0.eval (.tmp 3) = .pointer (some ⟨gq, 0, none⟩))
    (hQ : ∀ (vs : Nat → Value) w, Below W0.heap.size W0 w → (tl3C pp) (fun _ => true) vs w → Q .normal (tl3Slots.foldl (fun x p => x.put (some p.2) ((tl3Val gp gq pp qq LL N s) p.1)) ([26].foldl (fun x d => x.put (some d) (vs d)) a0)) w) :
    wpAny Try.prog .any tl3Ops Q 14 (Array.replicate 14 false) a0 W0.drew := by
  have ok : slotsFix tl3Slots a0.tmps.size = true := by
    have : ∀ z, 28 < z → slotsFix tl3Slots z = true := by
      intro z hz
      simp [slotsFix, tl3Slots]
      try omega
    exact this _ hs
  have okc : chainOk tl3Slots tl3Ch a0.tmps.size = true := by
    have : ∀ z, 28 < z → chainOk tl3Slots tl3Ch z = true := by
      intro z hz
      simp [chainOk, tl3Slots, tl3Ch]
      try omega
    exact this _ hs
  have lp : gp < W0.heap.size := World.block_lt_of_cell? _ _ m0
  have lq : gq < W0.heap.size := World.block_lt_of_cell? _ _ r0
  refine region_chain (by kernel_rfl) W0 a0 tl3Slots (tl3Val gp gq pp qq LL N s) tl3Ch (tl3C pp) ok okc 14 (by kernel_rfl) (by kernel_rfl) (by kernel_rfl) (fun L L' vs w h hc => by have h1 := h (10, some 26) (by decide); unfold tl3C at *; rw [← h1]; exact hc) (fun L vs w w' hc hb => fun y => by obtain ⟨M, K, e, ha⟩ := hc y; exact ⟨M, K, e, ha.below hb⟩) (fun h => by cases h) ?_ (fun vs w hb hc => hQ vs w hb hc)
  intro a1 i L a w hev h hc hi hf hneed
  replace e2 := (hev 2 rfl).trans e2
  replace e3 := (hev 3 rfl).trans e3
  rcases (show i = 0 ∨ i = 1 ∨ i = 2 ∨ i = 3 ∨ i = 4 ∨ i = 5 ∨ i = 6 ∨ i = 7 ∨ i = 8 ∨ i = 9 ∨ i = 10 ∨ i = 11 ∨ i = 12 ∨ i = 13 by omega) with rfl | rfl | rfl | rfl | rfl | rfl | rfl | rfl | rfl | rfl | rfl | rfl | rfl | rfl
  · refine .inl ?_
    exact fix_value (i := 0) (d := 16) rfl (wanted_none rfl) rfl (by decide) (x_load rfl ((h.old rfl).trans e2) (by have h0 := (h.below.cell (p := ⟨gp, 0, none⟩) lp).trans m0; have h1 := (h.below.cell (p := ⟨gp, 1, none⟩) lp).trans m1; have h2 := (h.below.cell (p := ⟨gp, 2, none⟩) lp).trans m2; have h3 := (h.below.cell (p := ⟨gp, 3, none⟩) lp).trans m3; have h4 := (h.below.cell (p := ⟨gp, 4, none⟩) lp).trans m4; simp [go_sem, h0, h1, h2, h3, h4]; try rfl))
  · refine .inl ?_
    exact fix_value (i := 1) (d := 17) rfl (wanted_none rfl) rfl (by decide) (x_load rfl ((h.old rfl).trans e3) (by have h0 := (h.below.cell (p := ⟨gq, 0, none⟩) lq).trans r0; have h1 := (h.below.cell (p := ⟨gq, 1, none⟩) lq).trans r1; have h2 := (h.below.cell (p := ⟨gq, 2, none⟩) lq).trans r2; have h3 := (h.below.cell (p := ⟨gq, 3, none⟩) lq).trans r3; have h4 := (h.below.cell (p := ⟨gq, 4, none⟩) lq).trans r4; simp [go_sem, h0, h1, h2, h3, h4]; try rfl))
  · refine .inl ?_
    refine fix_call (i := 2) (d := 18) 29 Try.f29 #[.tmp 16, .tmp 17] _ #[.agg #[.string ⟨pp.name.toArray⟩, .slice LL.ai pp.ins.length LL.ci, .slice LL.ao pp.outs.length LL.co, .slice LL.al pp.locals.length LL.cl, .slice LL.ae pp.eqs.length LL.ce], .agg #[.string ⟨qq.name.toArray⟩, .slice N.ai qq.ins.length N.ci, .slice N.ao qq.outs.length N.co, .slice N.al qq.locals.length N.cl, .slice N.ae qq.eqs.length N.ce]] rfl (wanted_none rfl) rfl (by decide) rfl (by simp [(h.get 0 16 (by decide) (hneed 0 (by kernel_rfl))), (h.get 1 17 (by decide) (hneed 1 (by kernel_rfl))), tl3Val]) Try.func29 (by kernel_rfl) (by kernel_rfl) ?_
    exact hts w h.below
  · refine .inl ?_
    exact fix_value (i := 3) (d := 19) rfl (wanted_none rfl) rfl (by decide) (x_load rfl ((h.old rfl).trans e2) (by have h0 := (h.below.cell (p := ⟨gp, 0, none⟩) lp).trans m0; have h1 := (h.below.cell (p := ⟨gp, 1, none⟩) lp).trans m1; have h2 := (h.below.cell (p := ⟨gp, 2, none⟩) lp).trans m2; have h3 := (h.below.cell (p := ⟨gp, 3, none⟩) lp).trans m3; have h4 := (h.below.cell (p := ⟨gp, 4, none⟩) lp).trans m4; simp [go_sem, h0, h1, h2, h3, h4]; try rfl))
  · refine .inl ?_
    exact fix_value (i := 4) (d := 20) rfl (wanted_none rfl) rfl (by decide) (x_load rfl ((h.old rfl).trans e3) (by have h0 := (h.below.cell (p := ⟨gq, 0, none⟩) lq).trans r0; have h1 := (h.below.cell (p := ⟨gq, 1, none⟩) lq).trans r1; have h2 := (h.below.cell (p := ⟨gq, 2, none⟩) lq).trans r2; have h3 := (h.below.cell (p := ⟨gq, 3, none⟩) lq).trans r3; have h4 := (h.below.cell (p := ⟨gq, 4, none⟩) lq).trans r4; simp [go_sem, h0, h1, h2, h3, h4]; try rfl))
  · refine .inl ?_
    refine fix_call (i := 5) (d := 21) 14 Try.f14 #[.tmp 19, .tmp 20] _ #[.agg #[.string ⟨pp.name.toArray⟩, .slice LL.ai pp.ins.length LL.ci, .slice LL.ao pp.outs.length LL.co, .slice LL.al pp.locals.length LL.cl, .slice LL.ae pp.eqs.length LL.ce], .agg #[.string ⟨qq.name.toArray⟩, .slice N.ai qq.ins.length N.ci, .slice N.ao qq.outs.length N.co, .slice N.al qq.locals.length N.cl, .slice N.ae qq.eqs.length N.ce]] rfl (wanted_none rfl) rfl (by decide) rfl (by simp [(h.get 3 19 (by decide) (hneed 3 (by kernel_rfl))), (h.get 4 20 (by decide) (hneed 4 (by kernel_rfl))), tl3Val]) Try.func14 (by kernel_rfl) (by kernel_rfl) ?_
    exact hrs w h.below
  · refine .inl ?_
    exact fix_value (i := 6) (d := 22) rfl (wanted_none rfl) rfl (by decide) ((by rw [x_eql_bool Try.underlying4 rfl (h.get 2 18 (by decide) (hneed 2 (by kernel_rfl))) (h.get 5 21 (by decide) (hneed 5 (by kernel_rfl)))]; simp; rfl))
  · refine .inl ?_
    exact fix_value (i := 7) (d := 23) rfl (wanted_none rfl) rfl (by decide) (x_move rfl (h.get 6 22 (by decide) (hneed 6 (by kernel_rfl))))
  · refine .inl ?_
    exact fix_value (i := 8) (d := 24) rfl (wanted_some rfl rfl rfl (h.get 7 23 (by decide) (hneed 7 (by kernel_rfl)))) rfl (by decide) (x_load rfl ((h.old rfl).trans e2) (by have h0 := (h.below.cell (p := ⟨gp, 0, none⟩) lp).trans m0; have h1 := (h.below.cell (p := ⟨gp, 1, none⟩) lp).trans m1; have h2 := (h.below.cell (p := ⟨gp, 2, none⟩) lp).trans m2; have h3 := (h.below.cell (p := ⟨gp, 3, none⟩) lp).trans m3; have h4 := (h.below.cell (p := ⟨gp, 4, none⟩) lp).trans m4; simp [go_sem, h0, h1, h2, h3, h4]; try rfl))
  · refine .inl ?_
    exact fix_value (i := 9) (d := 25) rfl (wanted_some rfl rfl rfl (h.get 7 23 (by decide) (hneed 7 (by kernel_rfl)))) rfl (by decide) (x_load rfl ((h.old rfl).trans e2) (by have h0 := (h.below.cell (p := ⟨gp, 0, none⟩) lp).trans m0; have h1 := (h.below.cell (p := ⟨gp, 1, none⟩) lp).trans m1; have h2 := (h.below.cell (p := ⟨gp, 2, none⟩) lp).trans m2; have h3 := (h.below.cell (p := ⟨gp, 3, none⟩) lp).trans m3; have h4 := (h.below.cell (p := ⟨gp, 4, none⟩) lp).trans m4; simp [go_sem, h0, h1, h2, h3, h4]; try rfl))
  · refine .inr ?_
    refine ⟨some 26, by decide, ch_call (i := 10) 16 Try.f16 #[.tmp 25] _ #[.agg #[.string ⟨pp.name.toArray⟩, .slice LL.ai pp.ins.length LL.ci, .slice LL.ao pp.outs.length LL.co, .slice LL.al pp.locals.length LL.cl, .slice LL.ae pp.eqs.length LL.ce]] rfl (wanted_some rfl rfl rfl (h.get 7 23 (by decide) (hneed 7 (by kernel_rfl)))) rfl (by simp [(h.get 9 25 (by decide) (hneed 9 (by kernel_rfl))), tl3Val]) Try.func16 (by kernel_rfl) (by kernel_rfl) ?_⟩
    refine (hln w h.below).mono ?_
    rintro e w' ⟨M, rfl, hat, hk⟩
    refine ⟨_, rfl, _, rfl, h.below.trans (hk.mono h.below.size), fun _ => ⟨M, _, ?_, hat⟩⟩
    simp only [if_true]
  · refine .inl ?_
    obtain ⟨M, K, ev, hat⟩ := hc (hneed 10 (by kernel_rfl))
    refine fix_call (i := 11) (d := 27) 29 Try.f29 #[.tmp 24, .tmp 26] _ #[.agg #[.string ⟨pp.name.toArray⟩, .slice LL.ai pp.ins.length LL.ci, .slice LL.ao pp.outs.length LL.co, .slice LL.al pp.locals.length LL.cl, .slice LL.ae pp.eqs.length LL.ce], pgAgg pp M] rfl (wanted_some rfl rfl rfl (h.get 7 23 (by decide) (hneed 7 (by kernel_rfl)))) rfl (by decide) rfl (by simp [(h.get 8 24 (by decide) (hneed 8 (by kernel_rfl))), tl3Val, show a.eval (.tmp 26) = pgAgg pp M from (h.old rfl).trans ev]) Try.func29 (by kernel_rfl) (by kernel_rfl) ?_
    exact hsl w M K h.below hat
  · refine .inl ?_
    exact fix_value (i := 12) (d := 28) rfl (wanted_none rfl) rfl (by decide) (x_pick_t rfl (h.get 7 23 (by decide) (hneed 7 (by kernel_rfl))) (h.get 11 27 (by decide) (hneed 11 (by kernel_rfl))))
  · refine .inl ?_
    exact fix_value (i := 13) (d := 5) rfl (wanted_none rfl) rfl (by decide) (x_assign rfl (h.get 12 28 (by decide) (hneed 12 (by kernel_rfl))))
end Go.Proofs.Ytilkilffkjhhbaa
