/-
  The function Print: its drawn statement.
  The function Print.
-/
import Derived.Test.YtilkilffkjhhbaaTrR3
import Derived.Test.YtilkilffkjhhbaaTrX
import Derived.Test.YtilkilffkjhhbaaTrQc
namespace Go.Proofs.Ytilkilffkjhhbaa
set_option maxRecDepth 20000
set_option linter.unusedVariables false
open Go.RowKit Tr Mem

noncomputable def pr3Ops : Array Oper := findOps 3 ((Try.f17).body.getD (.exit 0))
def pr3Slots : List (Nat × Nat) := [(0, 12), (1, 13), (2, 14), (3, 15), (4, 16), (5, 17), (6, 18), (7, 19), (8, 20), (9, 21), (10, 22), (11, 23), (12, 24), (13, 25), (14, 4)]
def pr3Val (ge ni no ci co : Nat) (nm ti to_ : Lx.Bs) (ai ao : Option Addr) : Nat → Value
  | 0 => .pointer (some ⟨ge, 0, none⟩)
  | 1 => .string ⟨nm.toArray⟩
  | 2 => .string ⟨(([110, 111, 100, 101, 32]) ++ (nm)).toArray⟩
  | 3 => .string ⟨(((([110, 111, 100, 101, 32]) ++ (nm))) ++ ([32])).toArray⟩
  | 4 => .pointer (some ⟨ge, 1, none⟩)
  | 5 => .slice ai ni ci
  | 6 => .string ⟨ti.toArray⟩
  | 7 => .string ⟨(((((([110, 111, 100, 101, 32]) ++ (nm))) ++ ([32]))) ++ (ti)).toArray⟩
  | 8 => .string ⟨(((((((([110, 111, 100, 101, 32]) ++ (nm))) ++ ([32]))) ++ (ti))) ++ ([32, 114, 101, 116, 117, 114, 110, 115, 32])).toArray⟩
  | 9 => .pointer (some ⟨ge, 2, none⟩)
  | 10 => .slice ao no co
  | 11 => .string ⟨to_.toArray⟩
  | 12 => .string ⟨(((((((((([110, 111, 100, 101, 32]) ++ (nm))) ++ ([32]))) ++ (ti))) ++ ([32, 114, 101, 116, 117, 114, 110, 115, 32]))) ++ (to_)).toArray⟩
  | 13 => .string ⟨(((((((((((([110, 111, 100, 101, 32]) ++ (nm))) ++ ([32]))) ++ (ti))) ++ ([32, 114, 101, 116, 117, 114, 110, 115, 32]))) ++ (to_))) ++ ([59, 10])).toArray⟩
  | _ => .string ⟨(((((((((((([110, 111, 100, 101, 32]) ++ (nm))) ++ ([32]))) ++ (ti))) ++ ([32, 114, 101, 116, 117, 114, 110, 115, 32]))) ++ (to_))) ++ ([59, 10])).toArray⟩
theorem pr3Region {Q : Exit → Act → World → Prop} (a0 : Act) (W0 : World) (hs : 25 < a0.tmps.size) (ge ni no ci co : Nat) (nm ti to_ : Lx.Bs) (ai ao : Option Addr) (m0 : W0.cell? ⟨ge, 0, none⟩ = some (.string ⟨nm.toArray⟩)) (hnm : nm.length ≤ 100) (m1 : W0.cell? ⟨ge, 1, none⟩ = some (.slice ai ni ci)) (m2 : W0.cell? ⟨ge, 2, none⟩ = some (.slice ao no co)) (hci : ∀ W, Below W0.heap.size W0 W → Calls Try.prog 47 #[.slice ai ni ci] W fun e w' => e = .returned (.string ⟨ti.toArray⟩) ∧ Below W.heap.size W w') (hlci : ti.length ≤ 10000) (hco : ∀ W, Below W0.heap.size W0 W → Calls Try.prog 47 #[.slice ao no co] W fun e w' => e = .returned (.string ⟨to_.toArray⟩) ∧ Below W.heap.size W w') (hlco : to_.length ≤ 10000) (e1 : a0.eval (.tmp 1) = .pointer (some ⟨ge, 0, none⟩))
    (hQ : ∀ w, Below W0.heap.size W0 w → Q .normal (pr3Slots.foldl (fun x p => x.put (some p.2) ((pr3Val ge ni no ci co nm ti to_ ai ao) p.1)) a0) w) :
    wpAny Try.prog .any pr3Ops Q 15 (Array.replicate 15 false) a0 W0.drew := by
  have ok : slotsFix pr3Slots a0.tmps.size = true := by
    have : ∀ z, 25 < z → slotsFix pr3Slots z = true := by
      intro z hz
      simp [slotsFix, pr3Slots]
      omega
    exact this _ hs
  have lge : ge < W0.heap.size := World.block_lt_of_cell? _ _ m0
  refine region_fixed (by kernel_rfl) W0 a0 pr3Slots (pr3Val ge ni no ci co nm ti to_ ai ao) ok (by kernel_rfl) 15 (by kernel_rfl) ?_ hQ
  intro i L a1 w h hi hneed
  rcases (show i = 0 ∨ i = 1 ∨ i = 2 ∨ i = 3 ∨ i = 4 ∨ i = 5 ∨ i = 6 ∨ i = 7 ∨ i = 8 ∨ i = 9 ∨ i = 10 ∨ i = 11 ∨ i = 12 ∨ i = 13 ∨ i = 14 by omega) with rfl | rfl | rfl | rfl | rfl | rfl | rfl | rfl | rfl | rfl | rfl | rfl | rfl | rfl | rfl
  · exact fix_value (i := 0) (d := 12) rfl (wanted_none rfl) rfl (by decide) (x_field rfl ((h.old rfl).trans e1) (by simp [go_sem]))
  · exact fix_value (i := 1) (d := 13) rfl (wanted_none rfl) rfl (by decide) (x_load rfl (h.get 0 12 (by decide) (hneed 0 (by kernel_rfl))) (by have hh0 := (h.below.cell (p := ⟨ge, 0, none⟩) lge).trans m0; simp [go_sem, hh0]; try rfl))
  · exact fix_value (i := 2) (d := 14) rfl (wanted_none rfl) rfl (by decide) (x_addstr rfl rfl (h.get 1 13 (by decide) (hneed 1 (by kernel_rfl))) (by simp; omega))
  · exact fix_value (i := 3) (d := 15) rfl (wanted_none rfl) rfl (by decide) (x_addstr rfl (h.get 2 14 (by decide) (hneed 2 (by kernel_rfl))) rfl (by simp; omega))
  · exact fix_value (i := 4) (d := 16) rfl (wanted_none rfl) rfl (by decide) (x_field rfl ((h.old rfl).trans e1) (by simp [go_sem]))
  · exact fix_value (i := 5) (d := 17) rfl (wanted_none rfl) rfl (by decide) (x_load rfl (h.get 4 16 (by decide) (hneed 4 (by kernel_rfl))) (by have hh0 := (h.below.cell (p := ⟨ge, 1, none⟩) lge).trans m1; simp [go_sem, hh0]; try rfl))
  · refine fix_call (i := 6) (d := 18) 47 Try.f47 #[.tmp 17] _ #[.slice ai ni ci] rfl (wanted_none rfl) rfl (by decide) rfl (by simp [(h.get 5 17 (by decide) (hneed 5 (by kernel_rfl))), pr3Val]) Try.func47 (by kernel_rfl) (by kernel_rfl) ?_
    exact hci w h.below
  · exact fix_value (i := 7) (d := 19) rfl (wanted_none rfl) rfl (by decide) (x_addstr rfl (h.get 3 15 (by decide) (hneed 3 (by kernel_rfl))) (h.get 6 18 (by decide) (hneed 6 (by kernel_rfl))) (by simp; omega))
  · exact fix_value (i := 8) (d := 20) rfl (wanted_none rfl) rfl (by decide) (x_addstr rfl (h.get 7 19 (by decide) (hneed 7 (by kernel_rfl))) rfl (by simp; omega))
  · exact fix_value (i := 9) (d := 21) rfl (wanted_none rfl) rfl (by decide) (x_field rfl ((h.old rfl).trans e1) (by simp [go_sem]))
  · exact fix_value (i := 10) (d := 22) rfl (wanted_none rfl) rfl (by decide) (x_load rfl (h.get 9 21 (by decide) (hneed 9 (by kernel_rfl))) (by have hh0 := (h.below.cell (p := ⟨ge, 2, none⟩) lge).trans m2; simp [go_sem, hh0]; try rfl))
  · refine fix_call (i := 11) (d := 23) 47 Try.f47 #[.tmp 22] _ #[.slice ao no co] rfl (wanted_none rfl) rfl (by decide) rfl (by simp [(h.get 10 22 (by decide) (hneed 10 (by kernel_rfl))), pr3Val]) Try.func47 (by kernel_rfl) (by kernel_rfl) ?_
    exact hco w h.below
  · exact fix_value (i := 12) (d := 24) rfl (wanted_none rfl) rfl (by decide) (x_addstr rfl (h.get 8 20 (by decide) (hneed 8 (by kernel_rfl))) (h.get 11 23 (by decide) (hneed 11 (by kernel_rfl))) (by simp; omega))
  · exact fix_value (i := 13) (d := 25) rfl (wanted_none rfl) rfl (by decide) (x_addstr rfl (h.get 12 24 (by decide) (hneed 12 (by kernel_rfl))) rfl (by simp; omega))
  · exact fix_value (i := 14) (d := 4) rfl (wanted_none rfl) rfl (by decide) (x_assign rfl (h.get 13 25 (by decide) (hneed 13 (by kernel_rfl))))
end Go.Proofs.Ytilkilffkjhhbaa
namespace Go.Proofs.Ytilkilffkjhhbaa
set_option maxRecDepth 20000
set_option linter.unusedVariables false
open Go.RowKit Tr Mem

theorem flat_take {α : Type} (f : α → Lx.Bs) (l : List α) (k : Nat) (h : k < l.length) : (l.take (k + 1)).flatMap f = (l.take k).flatMap f ++ f (l[k]'h) := by
  rw [List.take_succ_eq_append_getElem h, List.flatMap_append]
  simp
theorem str4 (a b c d e : Lx.Bs) (h : e = a ++ (b ++ c ++ d)) : Value.string (ByteArray.mk a.toArray ++ ((ByteArray.mk b.toArray ++ ByteArray.mk c.toArray) ++ ByteArray.mk d.toArray)) = .string ⟨e.toArray⟩ := by rw [ba3, ba_append, h]
theorem flat_len {α : Type} (f : α → Lx.Bs) (b : Nat) : ∀ (l : List α), (∀ x ∈ l, (f x).length ≤ b) → (l.flatMap f).length ≤ b * l.length
  | [], _ => by simp
  | x :: r, h => by
    have h1 := h x (by simp)
    have h2 := flat_len f b r (fun y hy => h y (by simp [hy]))
    rw [List.flatMap_cons, List.length_append, List.length_cons, Nat.mul_add]
    omega
theorem text_small {x : Ex} (h : right x = 0) : (text x).length ≤ 10000 := by
  obtain ⟨h1, h2, h3⟩ := right_zero h
  have := text_len x h3
  omega
/-- what an equation that can be is -/
structure EqOk (q : Eqn) : Prop where
  name : q.name.length ≤ 16
  e : right q.e = 0
  first : q.delay = 1 → right q.first = 0
  delay : q.delay = 1 ∨ q.delay = 0 ∨ q.delay = 2
theorem literal_right {x : Ex} (h : literal x = true) : right x = 0 := by
  unfold literal at h
  rw [Bool.and_eq_true] at h
  simpa using h.1
theorem eqOk_ok {q : Eqn} (h : eqOk q = true) : EqOk q := by
  unfold eqOk at h
  rw [Bool.and_eq_true, Bool.and_eq_true] at h
  obtain ⟨⟨h1, h2⟩, h3⟩ := h
  refine ⟨name_len h1, by simpa using h2, fun hd => ?_, ?_⟩
  · rw [if_pos hd] at h3; exact literal_right h3
  · by_cases hd : q.delay = 1
    · exact .inl hd
    · rw [if_neg hd, Bool.and_eq_true, Bool.or_eq_true] at h3
      rcases h3.1 with h | h
      · exact .inr (.inl (by simpa using h))
      · exact .inr (.inr (by simpa using h))
theorem eqText_len {q : Eqn} (h : EqOk q) : (eqText q).length ≤ 30000 := by
  have h1 := h.name
  have h2 := text_small h.e
  unfold eqText
  split
  · rename_i hd
    have h3 := text_small (h.first hd)
    simp [wFby]; omega
  · split <;> (simp [wPre]; omega)
theorem localText_len {v : Vr} (h : (declared v).length ≤ 60) : (localText v).length ≤ 64 := by unfold localText; simp; omega
/-- small enough to be written -/
def Few (p : Pg) : Prop := p.ins.length ≤ 100 ∧ p.outs.length ≤ 100 ∧ p.locals.length ≤ 100 ∧ p.eqs.length ≤ 100
set_option maxRecDepth 100000 in
set_option maxHeartbeats 16000000 in
theorem print_any (p : Pg) (L : Lie) (K : Nat → Prop) (w : World) (hA : PgAt w K p L) (hf : PgFit p) (hw : Few p) :
    Calls Try.prog 17 #[pgAgg p L] w fun e w' => e = .returned (.tuple #[.string ⟨(print p).1.toArray⟩, .int .i64 (print p).2]) ∧ Below w.heap.size w w' := by
  have HWH := Lib.hid (fun W h => whole_any p L K W h hf)
  have HPA := Lib.hid hA
  obtain ⟨r, hr⟩ : ∃ r, r = print p := ⟨_, rfl⟩
  rw [← hr]
  unfold print at hr
  obtain ⟨f1, f2, f3, f4⟩ := hw
  have HIO : Hid (whole p = true → (p.name.length ≤ 16 ∧ ListOk p.ins ∧ ListOk p.outs ∧ ListOk p.locals ∧ ∀ q ∈ p.eqs, EqOk q)) := by
    intro h
    unfold whole at h
    simp only [Bool.and_eq_true] at h
    obtain ⟨⟨⟨⟨h1, h2⟩, h3⟩, h4⟩, h5⟩ := h
    exact ⟨name_len h1, listOk_of f1 h2, listOk_of f2 h3, listOk_of f3 h4, fun q hq => eqOk_ok (List.all_eq_true.1 h5 q hq)⟩
  have HFE := Lib.hid hf.eqs.2
  clear hA hf
  have HRR := Lib.hid hr
  clear hr
  obtain ⟨wb, hwb⟩ : ∃ b, b = whole p := ⟨_, rfl⟩
  rw [← hwb] at HWH HRR HIO
  have HT : Hid (pgText p = wNode ++ [32] ++ p.name ++ [32] ++ ([40] ++ decls p.ins ++ [41]) ++ [32] ++ wReturns ++ [32] ++ ([40] ++ decls p.outs ++ [41]) ++ [59, 10] ++
    (if p.locals = [] then [] else wVar ++ [10]) ++ p.locals.flatMap localText ++ wLet ++ [10] ++ p.eqs.flatMap eqText ++ wTel ++ [10]) := by unfold RowKit.Hid pgText; simp
  generalize pgText p = T at *
  obtain ⟨pn, pi, po, pl, pe⟩ := p
  obtain ⟨ai, ci, ao, co, al, cl, ae, ce⟩ := L
  dsimp only at *
  unfold pgAgg at *
  dsimp only at *
  clear hwb
  cases wb
  · go_enter Try.func17, Try.ntmps17
    go_wp2_with fail
    refine (HWH.out _ (HPA.out.below ((Below.refl _ _).alloc (Nat.le_refl _) _))).mono ?_
    rintro e w1 ⟨rfl, hb1⟩
    have HB1 := Lib.hid (((Below.refl w.heap.size w).alloc (Nat.le_refl _) _).trans (hb1.mono (by simp)))
    clear hb1
    go_wp2_with fail
    go_ret2
    exact ⟨by rw [HRR.out]; rfl, HB1.out⟩
  · obtain ⟨hnm, hki, hko, hkl, hke⟩ := HIO.out rfl
    have hdi := decls_len pi (fun v hv => (hki.2 v hv).2.2)
    have hdo := decls_len po (fun v hv => (hko.2 v hv).2.2)
    have HLI := Lib.hid (fun W h => list_any pi ai ci W h hki)
    have HLO := Lib.hid (fun W h => list_any po ao co W h hko)
    have HKL := Lib.hid hkl.2
    have HKE := Lib.hid hke
    have HDC := Lib.hid (fun v h1 h2 W => declared_any v h1 h2 W)
    have HLT : Hid (∀ j, ((pl.take j).flatMap localText).length ≤ 6400) := fun j => by
      have := flat_len localText 64 (pl.take j) (fun v hv => localText_len (hkl.2 v (List.mem_of_mem_take hv)).2.2)
      rw [List.length_take] at this
      omega
    have HET : Hid (∀ j, ((pe.take j).flatMap eqText).length ≤ 3000000) := fun j => by
      have := flat_len eqText 30000 (pe.take j) (fun q hq => eqText_len (hke q (List.mem_of_mem_take hq)))
      rw [List.length_take] at this
      omega
    have HSH := Lib.hid (fun x h1 h2 A cap => show_any K (size x) x (Nat.le_refl _) (by have := (right_zero h1).1; omega) (right_zero h1).2.2 h2 A cap)
    unfold ShowSaid at HSH
    clear HIO hki hko hkl hke
    go_enter Try.func17, Try.ntmps17
    go_wp2_with fail
    obtain ⟨W0, hW0⟩ : ∃ W0, W0 = w.alloc (.cells #[.string ⟨pn.toArray⟩, .slice ai pi.length ci, .slice ao po.length co, .slice al pl.length cl, .slice ae pe.length ce] 26) := ⟨_, rfl⟩
    rw [← hW0]
    have hb0 : Below w.heap.size w W0 := by rw [hW0]; exact (Below.refl _ _).alloc (Nat.le_refl _) _
    have HP0 : Hid (W0.heap[w.heap.size]? = some (.cells #[.string ⟨pn.toArray⟩, .slice ai pi.length ci, .slice ao po.length co, .slice al pl.length cl, .slice ae pe.length ce] 26 (0, 0))) := by rw [hW0]; exact heap_alloc_new _ _
    have hs0 : w.heap.size < W0.heap.size := by rw [hW0]; simp
    have HPA0 := Lib.hid (HPA.out.below hb0)
    have HB0 := Lib.hid hb0
    clear hW0 hb0
    refine (HWH.out _ HPA0.out).mono ?_
    rintro e w1 ⟨rfl, hb1⟩
    have HP1 := Lib.hid ((hb1.block _ hs0).trans HP0.out)
    have HPA1 := Lib.hid (HPA0.out.below hb1)
    have HB1 := Lib.hid (HB0.out.trans (hb1.mono HB0.out.size))
    have hs1 : w.heap.size < w1.heap.size := Nat.lt_of_lt_of_le hs0 hb1.size
    clear hb1
    have n0 : w1.cell? ⟨w.heap.size, 0, none⟩ = some (.string ⟨pn.toArray⟩) := cell_of_row w1 w.heap.size 0 _ _ _ HP1.out
    obtain ⟨⟨n1, n2, n3, n4⟩, -⟩ := row5 HP1.out
    go_upto_region 3 with (fail)
    refine wp_region_any (by kernel_rfl) ?_
    refine wpAny_ops (ops' := pr3Ops) (by kernel_rfl) ?_
    refine pr3Region _ _ (by simp) w.heap.size pi.length po.length ci co pn ([40] ++ decls pi ++ [41]) ([40] ++ decls po ++ [41]) ai ao n0 (by omega) n1 n2 (fun W h => HLI.out W (HPA1.out.ins.below h)) (by simp; omega) (fun W h => HLO.out W (HPA1.out.outs.below h)) (by simp; omega) rfl ?_
    intro wq hbq
    simp only [pr3Slots, List.foldl_cons, List.foldl_nil]
    generalize pr3Val w.heap.size pi.length po.length ci co pn ([40] ++ decls pi ++ [41]) ([40] ++ decls po ++ [41]) ai ao 0 = dv0_pr3
    generalize pr3Val w.heap.size pi.length po.length ci co pn ([40] ++ decls pi ++ [41]) ([40] ++ decls po ++ [41]) ai ao 1 = dv1_pr3
    generalize pr3Val w.heap.size pi.length po.length ci co pn ([40] ++ decls pi ++ [41]) ([40] ++ decls po ++ [41]) ai ao 2 = dv2_pr3
    generalize pr3Val w.heap.size pi.length po.length ci co pn ([40] ++ decls pi ++ [41]) ([40] ++ decls po ++ [41]) ai ao 3 = dv3_pr3
    generalize pr3Val w.heap.size pi.length po.length ci co pn ([40] ++ decls pi ++ [41]) ([40] ++ decls po ++ [41]) ai ao 4 = dv4_pr3
    generalize pr3Val w.heap.size pi.length po.length ci co pn ([40] ++ decls pi ++ [41]) ([40] ++ decls po ++ [41]) ai ao 5 = dv5_pr3
    generalize pr3Val w.heap.size pi.length po.length ci co pn ([40] ++ decls pi ++ [41]) ([40] ++ decls po ++ [41]) ai ao 6 = dv6_pr3
    generalize pr3Val w.heap.size pi.length po.length ci co pn ([40] ++ decls pi ++ [41]) ([40] ++ decls po ++ [41]) ai ao 7 = dv7_pr3
    generalize pr3Val w.heap.size pi.length po.length ci co pn ([40] ++ decls pi ++ [41]) ([40] ++ decls po ++ [41]) ai ao 8 = dv8_pr3
    generalize pr3Val w.heap.size pi.length po.length ci co pn ([40] ++ decls pi ++ [41]) ([40] ++ decls po ++ [41]) ai ao 9 = dv9_pr3
    generalize pr3Val w.heap.size pi.length po.length ci co pn ([40] ++ decls pi ++ [41]) ([40] ++ decls po ++ [41]) ai ao 10 = dv10_pr3
    generalize pr3Val w.heap.size pi.length po.length ci co pn ([40] ++ decls pi ++ [41]) ([40] ++ decls po ++ [41]) ai ao 11 = dv11_pr3
    generalize pr3Val w.heap.size pi.length po.length ci co pn ([40] ++ decls pi ++ [41]) ([40] ++ decls po ++ [41]) ai ao 12 = dv12_pr3
    generalize pr3Val w.heap.size pi.length po.length ci co pn ([40] ++ decls pi ++ [41]) ([40] ++ decls po ++ [41]) ai ao 13 = dv13_pr3
    simp only [pr3Val]
    simp only [Act.put, List.setIfInBounds_toArray, List.set_cons_zero, List.set_cons_succ]
    obtain ⟨S0, hS0⟩ : ∃ S, S = (((((((((((([110, 111, 100, 101, 32]) ++ pn)) ++ ([32]))) ++ ([40] ++ decls pi ++ [41]))) ++ ([32, 114, 101, 116, 117, 114, 110, 115, 32]))) ++ ([40] ++ decls po ++ [41]))) ++ ([59, 10])) := ⟨_, rfl⟩
    rw [← hS0]
    have hS0l : S0.length ≤ 20000 := by rw [hS0]; simp; omega
    have HS0 := Lib.hid hS0
    have hpr := (hbq.block _ hs1).trans HP1.out
    have HPA2 := Lib.hid (HPA1.out.below hbq)
    have HB2 := Lib.hid (HB1.out.trans (hbq.mono HB1.out.size))
    have hs2 : w.heap.size < wq.heap.size := Nat.lt_of_lt_of_le hs1 hbq.size
    clear hS0 n0 n1 n2 n3 n4 hbq
    have HPR := Lib.hid hpr
    clear hpr
    obtain ⟨⟨n1, n2, n3, n4⟩, -⟩ := row5 HPR.out
    by_cases hpl : pl.length = 0
    · have hpe0 : pl = [] := List.length_eq_zero_iff.1 hpl
      have HT1 : Hid (T = S0 ++ [] ++ pl.flatMap localText ++ [108, 101, 116, 10] ++ pe.flatMap eqText ++ [116, 101, 108, 10]) := by unfold RowKit.Hid; rw [HT.out, HS0.out, if_pos hpe0]; simp [wNode, wReturns, wLet, wTel]
      obtain ⟨S1, hS1⟩ : ∃ S : Lx.Bs, S = S0 ++ [] := ⟨_, rfl⟩
      rw [← hS1] at HT1
      have hS1' : S0 = S1 := by rw [hS1, List.append_nil]
      subst hS1'
      have hdc : decide (0 < pl.length) = false := decide_eq_false (by omega)
      have hdc2 : ¬ 0 < pl.length := by omega
      clear hpe0 hS1 hpl
      go_wp2_with fail
      go_loopw [4, 35] (fun v i wr => ∃ (j : Nat) (d : Lx.Bs), j ≤ pl.length ∧ i = .int .i64 j ∧ v = .string ⟨(S0 ++ d).toArray⟩ ∧ d.length ≤ 6400 ∧ Hid (d = (pl.take j).flatMap localText) ∧ Below wq.heap.size wq wr) (fun _ i _ => pl.length - (intOf i).toNat)
      case atStart => exact ⟨0, [], Nat.zero_le _, rfl, by rw [List.append_nil], by simp, by rfl, Below.refl _ _⟩
      case round =>
        obtain ⟨j, d, hj, rfl, rfl, hd6, HD, hb⟩ := hrel
        by_cases hlt : j < pl.length
        · exfalso; omega
        · obtain rfl : j = pl.length := by omega
          have HT2 : Hid (T = S0 ++ d ++ [108, 101, 116, 10] ++ pe.flatMap eqText ++ [116, 101, 108, 10]) := by
            have h1 := HT1.out
            have h2 := HD.out
            rw [List.take_length] at h2
            unfold RowKit.Hid
            rw [h1, h2]
          have hpr := (hb.block _ hs2).trans HPR.out
          obtain ⟨⟨n1, n2, n3, n4⟩, -⟩ := row5 hpr
          clear hpr HD HT1
          obtain ⟨S2, hS2⟩ : ∃ S, S = (S0 ++ d) ++ [108, 101, 116, 10] := ⟨_, rfl⟩
          rw [← hS2] at HT2
          have hS2l : S2.length ≤ 30000 := by rw [hS2]; simp; omega
          have HS2 := Lib.hid hS2
          clear hS2
          go_wp2_with fail
          go_loopw [4, 51] (fun v i wr => ∃ (j : Nat) (d : Lx.Bs), j ≤ pe.length ∧ i = .int .i64 j ∧ v = .string ⟨(S2 ++ d).toArray⟩ ∧ d.length ≤ 3000000 ∧ Hid (d = (pe.take j).flatMap eqText) ∧ Below wq.heap.size wq wr) (fun _ i _ => pe.length - (intOf i).toNat)
          case atStart => exact ⟨0, [], Nat.zero_le _, rfl, str2 (S0 ++ d) [108, 101, 116, 10] _ (by rw [List.append_nil]; exact HS2.out), by simp, by rfl, hb⟩
          case round =>
            clear hb HS2 hd6
            obtain ⟨j, d, hj, rfl, rfl, hd6, HD, hb⟩ := hrel
            by_cases hlt : j < pe.length
            · obtain ⟨b, off, AF, cF, AE, cE, rfl, hbl, hx1, hx2, c0, c1, c2, c3, c4, c5, c6, c7, c8, c9⟩ := HPA2.out.eqs.in_ hb j hlt
              have HS := Lib.hid (flat_take eqText pe j hlt)
              have hkk := HKE.out _ (List.getElem_mem hlt)
              have hff := HFE.out _ (List.getElem_mem hlt)
              have hd7 := HET.out (j + 1)
              rw [HS.out] at hd7
              generalize pe[j]'hlt = q at *
              rw [← HD.out] at hd7
              have HC1 := Lib.hid (fun W h => HSH.out q.e hkk.e hff.2.2 AE cE W h)
              have HC2 := Lib.hid (fun h1 W h => HSH.out q.first (hkk.first h1) hff.2.1 AF cF W h)
              have hl1 := hkk.name
              have hl2 := text_small hkk.e
              have HL3 := Lib.hid (fun h1 => text_small (hkk.first h1))
              have hdl := hkk.delay
              unfold exAgg at HC1 HC2
              have HEQT : Hid (eqText q = [32, 32] ++ q.name ++ [32, 61, 32] ++ (if q.delay = 1 then text q.first ++ [32] ++ wFby ++ [32] else if q.delay = 2 then wPre ++ [32] else []) ++ text q.e ++ [59, 10]) := rfl
              generalize text q.e = te at *
              generalize text q.first = tf at *
              have hd8 : d.length + (eqText q).length ≤ 3000000 := by simpa using hd7
              rw [HEQT.out] at hd8 HS
              clear hd7 HEQT hkk hff
              have HXA := Lib.hid hx1
              have HXB := Lib.hid hx2
              clear hx1 hx2
              go_upto_region 15 with (fail)
              obtain ⟨W8, hW8⟩ : ∃ W8, W8 = wr.alloc (.cells #[.string ⟨q.name.toArray⟩, .int .i64 q.delay, .int .i64 q.first.kind, .int .i32 q.first.n, .string ⟨q.first.name.toArray⟩, .slice AF q.first.sub.length cF, .int .i64 q.e.kind, .int .i32 q.e.n, .string ⟨q.e.name.toArray⟩, .slice AE q.e.sub.length cE] 56) := ⟨_, rfl⟩
              rw [← hW8]
              have hb8 : Below wr.heap.size wr W8 := by rw [hW8]; exact (Below.refl _ _).alloc (Nat.le_refl _) _
              have HQ8 : Hid (W8.heap[wr.heap.size]? = some (.cells #[.string ⟨q.name.toArray⟩, .int .i64 q.delay, .int .i64 q.first.kind, .int .i32 q.first.n, .string ⟨q.first.name.toArray⟩, .slice AF q.first.sub.length cF, .int .i64 q.e.kind, .int .i32 q.e.n, .string ⟨q.e.name.toArray⟩, .slice AE q.e.sub.length cE] 56 (0, 0))) := by rw [hW8]; exact heap_alloc_new _ _
              have hb80 := hb.trans (hb8.mono hb.size)
              have HXA8 := Lib.hid (HXA.out.below hb8 (Nat.le_refl _))
              have HXB8 := Lib.hid (HXB.out.below hb8 (Nat.le_refl _))
              have hs8 : wr.heap.size < W8.heap.size := by rw [hW8]; simp
              clear hW8 hb8 hb HXA HXB c0 c1 c2 c3 c4 c5 c6 c7 c8 c9
              have HB8 := Lib.hid hb80
              clear hb80
              obtain ⟨m0, m1, m2, m3, m4, m5, m6, m7, m8, m9⟩ := row10e HQ8.out
              rcases hdl with h1 | h1 | h1
              · rw [h1] at m1
                rw [h1, if_pos rfl] at hd8 HS
                have hl3 := HL3.out h1
                have HC3 := Lib.hid (HC2.out h1)
                clear HC2 HL3 h1
                go_wp2_with fail
                refine (HC3.out _ HXA8.out).mono ?_
                rintro e w9 ⟨rfl, hb9⟩
                have HQ9 := Lib.hid ((hb9.block _ hs8).trans HQ8.out)
                have HB9 := Lib.hid (HB8.out.trans (hb9.mono HB8.out.size))
                have HXB9 := Lib.hid (HXB8.out.below hb9 (Nat.le_refl _))
                clear hb9 m0 m1 m2 m3 m4 m5 m6 m7 m8 m9
                obtain ⟨m0, m1, m2, m3, m4, m5, m6, m7, m8, m9⟩ := row10e HQ9.out
                go_wp2_with fail
                refine (HC1.out _ HXB9.out).mono ?_
                rintro e w10 ⟨rfl, hb10⟩
                have HB10 := Lib.hid (HB9.out.trans (hb10.mono HB9.out.size))
                clear hb10
                go_wp2_with fail
                go_roundw
                case rel => exact ⟨j + 1, d ++ ([32, 32] ++ q.name ++ [32, 61, 32] ++ (tf ++ [32] ++ wFby ++ [32]) ++ te ++ [59, 10]), by omega, by go_num, by simp only [ba_append]; simp [wFby], by simp at hd8 ⊢; omega, by unfold RowKit.Hid; rw [HS.out, HD.out], HB10.out⟩
                case measure => simp [intOf]; omega
              · rw [h1] at m1
                rw [h1, if_neg (by decide), if_neg (by decide)] at hd8 HS
                clear HC2 HL3 h1
                go_wp2_with fail
                refine (HC1.out _ HXB8.out).mono ?_
                rintro e w10 ⟨rfl, hb10⟩
                have HB10 := Lib.hid (HB8.out.trans (hb10.mono HB8.out.size))
                clear hb10
                go_wp2_with fail
                go_roundw
                case rel => exact ⟨j + 1, d ++ ([32, 32] ++ q.name ++ [32, 61, 32] ++ [] ++ te ++ [59, 10]), by omega, by go_num, by simp only [ba_append]; simp, by simp at hd8 ⊢; omega, by unfold RowKit.Hid; rw [HS.out, HD.out], HB10.out⟩
                case measure => simp [intOf]; omega
              · rw [h1] at m1
                rw [h1, if_neg (by decide), if_pos rfl] at hd8 HS
                clear HC2 HL3 h1
                go_wp2_with fail
                refine (HC1.out _ HXB8.out).mono ?_
                rintro e w10 ⟨rfl, hb10⟩
                have HB10 := Lib.hid (HB8.out.trans (hb10.mono HB8.out.size))
                clear hb10
                go_wp2_with fail
                go_roundw
                case rel => exact ⟨j + 1, d ++ ([32, 32] ++ q.name ++ [32, 61, 32] ++ (wPre ++ [32]) ++ te ++ [59, 10]), by omega, by go_num, by simp only [ba_append]; simp [wPre], by simp at hd8 ⊢; omega, by unfold RowKit.Hid; rw [HS.out, HD.out], HB10.out⟩
                case measure => simp [intOf]; omega
            · obtain rfl : j = pe.length := by omega
              have hT : T = (S2 ++ d) ++ [116, 101, 108, 10] := by
                have h1 := HT2.out
                have h2 := HD.out
                rw [List.take_length] at h2
                rw [h1, h2]
              have hTl : T.length ≤ 9223372036854775807 := by rw [hT]; simp; omega
              go_upto_region 24 with (fail)
              rw [str2 (S2 ++ d) [116, 101, 108, 10] T hT]
              clear hT HD HT2
              by_cases hbig : 4096 < T.length
              · go_wp2_with fail
                go_ret2
                exact ⟨by rw [HRR.out, if_pos trivial, if_pos hbig]; rfl, HB2.out.trans (hb.mono HB2.out.size)⟩
              · go_wp2_with fail
                go_ret2
                exact ⟨by rw [HRR.out, if_pos trivial, if_neg hbig]; rfl, HB2.out.trans (hb.mono HB2.out.size)⟩
    · have hpe0 : pl ≠ [] := fun e => hpl (by rw [e]; rfl)
      have hdc : decide (0 < pl.length) = true := decide_eq_true (by omega)
      have HT1 : Hid (T = S0 ++ [118, 97, 114, 10] ++ pl.flatMap localText ++ [108, 101, 116, 10] ++ pe.flatMap eqText ++ [116, 101, 108, 10]) := by unfold RowKit.Hid; rw [HT.out, HS0.out, if_neg hpe0]; simp [wNode, wReturns, wLet, wTel, wVar]
      clear hpe0
      obtain ⟨S1, hS1⟩ : ∃ S, S = S0 ++ [118, 97, 114, 10] := ⟨_, rfl⟩
      rw [← hS1] at HT1
      have hS1l : S1.length ≤ 20004 := by rw [hS1]; simp; omega
      have HS1 := Lib.hid hS1
      clear hS1 HS0
      go_wp2_with fail
      go_loopw [4, 35] (fun v i wr => ∃ (j : Nat) (d : Lx.Bs), j ≤ pl.length ∧ i = .int .i64 j ∧ v = .string ⟨(S1 ++ d).toArray⟩ ∧ d.length ≤ 6400 ∧ Hid (d = (pl.take j).flatMap localText) ∧ Below wq.heap.size wq wr) (fun _ i _ => pl.length - (intOf i).toNat)
      case atStart => exact ⟨0, [], Nat.zero_le _, rfl, str2 S0 [118, 97, 114, 10] _ (by rw [List.append_nil]; exact HS1.out), by simp, by rfl, Below.refl _ _⟩
      case round =>
        obtain ⟨j, d, hj, rfl, rfl, hd6, HD, hb⟩ := hrel
        by_cases hlt : j < pl.length
        · obtain ⟨b, off, rfl, hbl, c0, c1, c2, c3⟩ := HPA2.out.locals.in_ hb j hlt
          have HS := Lib.hid (flat_take localText pl j hlt)
          have hkk := HKL.out _ (List.getElem_mem hlt)
          have hd7 := HLT.out (j + 1)
          rw [HS.out] at hd7
          generalize pl[j]'hlt = v at *
          obtain ⟨k1, k2, k3⟩ := hkk
          have HC := Lib.hid (fun W => HDC.out v (by omega) (by omega) W)
          unfold varAgg at HC
          have hlt1 : localText v = [32, 32] ++ declared v ++ [59, 10] := rfl
          rw [hlt1] at HS hd7
          clear hlt1
          generalize declared v = dv at *
          rw [← HD.out] at hd7
          have hd8 : d.length + dv.length + 4 ≤ 6400 := by simp at hd7; omega
          clear hd7
          obtain ⟨vn, vt, vck, vcn⟩ := v
          dsimp only at *
          go_wp2_with fail
          refine (HC.out _).mono ?_
          rintro e w3 ⟨rfl, hb3⟩
          have HB3 := Lib.hid ((hb.alloc hb.size _).trans (hb3.mono (by have := hb.size; simp; omega)))
          clear hb3
          go_wp2_with fail
          go_roundw
          case rel => exact ⟨j + 1, d ++ ([32, 32] ++ dv ++ [59, 10]), by omega, by go_num, str4 (S1 ++ d) [32, 32] dv [59, 10] _ (by simp), by have := hd8; simp only [List.length_append, List.length_cons, List.length_nil]; omega, by unfold RowKit.Hid; rw [HS.out, HD.out], HB3.out⟩
          case measure => simp [intOf]; omega
        · obtain rfl : j = pl.length := by omega
          have HT2 : Hid (T = S1 ++ d ++ [108, 101, 116, 10] ++ pe.flatMap eqText ++ [116, 101, 108, 10]) := by
            have h1 := HT1.out
            have h2 := HD.out
            rw [List.take_length] at h2
            unfold RowKit.Hid
            rw [h1, h2]
          have hpr := (hb.block _ hs2).trans HPR.out
          obtain ⟨⟨n1, n2, n3, n4⟩, -⟩ := row5 hpr
          clear hpr HD HT1
          obtain ⟨S2, hS2⟩ : ∃ S, S = (S1 ++ d) ++ [108, 101, 116, 10] := ⟨_, rfl⟩
          rw [← hS2] at HT2
          have hS2l : S2.length ≤ 30000 := by rw [hS2]; simp; omega
          have HS2 := Lib.hid hS2
          clear hS2
          go_wp2_with fail
          go_loopw [4, 51] (fun v i wr => ∃ (j : Nat) (d : Lx.Bs), j ≤ pe.length ∧ i = .int .i64 j ∧ v = .string ⟨(S2 ++ d).toArray⟩ ∧ d.length ≤ 3000000 ∧ Hid (d = (pe.take j).flatMap eqText) ∧ Below wq.heap.size wq wr) (fun _ i _ => pe.length - (intOf i).toNat)
          case atStart => exact ⟨0, [], Nat.zero_le _, rfl, str2 (S1 ++ d) [108, 101, 116, 10] _ (by rw [List.append_nil]; exact HS2.out), by simp, by rfl, hb⟩
          case round =>
            clear hb HS2 hd6
            obtain ⟨j, d, hj, rfl, rfl, hd6, HD, hb⟩ := hrel
            by_cases hlt : j < pe.length
            · obtain ⟨b, off, AF, cF, AE, cE, rfl, hbl, hx1, hx2, c0, c1, c2, c3, c4, c5, c6, c7, c8, c9⟩ := HPA2.out.eqs.in_ hb j hlt
              have HS := Lib.hid (flat_take eqText pe j hlt)
              have hkk := HKE.out _ (List.getElem_mem hlt)
              have hff := HFE.out _ (List.getElem_mem hlt)
              have hd7 := HET.out (j + 1)
              rw [HS.out] at hd7
              generalize pe[j]'hlt = q at *
              rw [← HD.out] at hd7
              have HC1 := Lib.hid (fun W h => HSH.out q.e hkk.e hff.2.2 AE cE W h)
              have HC2 := Lib.hid (fun h1 W h => HSH.out q.first (hkk.first h1) hff.2.1 AF cF W h)
              have hl1 := hkk.name
              have hl2 := text_small hkk.e
              have HL3 := Lib.hid (fun h1 => text_small (hkk.first h1))
              have hdl := hkk.delay
              unfold exAgg at HC1 HC2
              have HEQT : Hid (eqText q = [32, 32] ++ q.name ++ [32, 61, 32] ++ (if q.delay = 1 then text q.first ++ [32] ++ wFby ++ [32] else if q.delay = 2 then wPre ++ [32] else []) ++ text q.e ++ [59, 10]) := rfl
              generalize text q.e = te at *
              generalize text q.first = tf at *
              have hd8 : d.length + (eqText q).length ≤ 3000000 := by simpa using hd7
              rw [HEQT.out] at hd8 HS
              clear hd7 HEQT hkk hff
              have HXA := Lib.hid hx1
              have HXB := Lib.hid hx2
              clear hx1 hx2
              go_upto_region 15 with (fail)
              obtain ⟨W8, hW8⟩ : ∃ W8, W8 = wr.alloc (.cells #[.string ⟨q.name.toArray⟩, .int .i64 q.delay, .int .i64 q.first.kind, .int .i32 q.first.n, .string ⟨q.first.name.toArray⟩, .slice AF q.first.sub.length cF, .int .i64 q.e.kind, .int .i32 q.e.n, .string ⟨q.e.name.toArray⟩, .slice AE q.e.sub.length cE] 56) := ⟨_, rfl⟩
              rw [← hW8]
              have hb8 : Below wr.heap.size wr W8 := by rw [hW8]; exact (Below.refl _ _).alloc (Nat.le_refl _) _
              have HQ8 : Hid (W8.heap[wr.heap.size]? = some (.cells #[.string ⟨q.name.toArray⟩, .int .i64 q.delay, .int .i64 q.first.kind, .int .i32 q.first.n, .string ⟨q.first.name.toArray⟩, .slice AF q.first.sub.length cF, .int .i64 q.e.kind, .int .i32 q.e.n, .string ⟨q.e.name.toArray⟩, .slice AE q.e.sub.length cE] 56 (0, 0))) := by rw [hW8]; exact heap_alloc_new _ _
              have hb80 := hb.trans (hb8.mono hb.size)
              have HXA8 := Lib.hid (HXA.out.below hb8 (Nat.le_refl _))
              have HXB8 := Lib.hid (HXB.out.below hb8 (Nat.le_refl _))
              have hs8 : wr.heap.size < W8.heap.size := by rw [hW8]; simp
              clear hW8 hb8 hb HXA HXB c0 c1 c2 c3 c4 c5 c6 c7 c8 c9
              have HB8 := Lib.hid hb80
              clear hb80
              obtain ⟨m0, m1, m2, m3, m4, m5, m6, m7, m8, m9⟩ := row10e HQ8.out
              rcases hdl with h1 | h1 | h1
              · rw [h1] at m1
                rw [h1, if_pos rfl] at hd8 HS
                have hl3 := HL3.out h1
                have HC3 := Lib.hid (HC2.out h1)
                clear HC2 HL3 h1
                go_wp2_with fail
                refine (HC3.out _ HXA8.out).mono ?_
                rintro e w9 ⟨rfl, hb9⟩
                have HQ9 := Lib.hid ((hb9.block _ hs8).trans HQ8.out)
                have HB9 := Lib.hid (HB8.out.trans (hb9.mono HB8.out.size))
                have HXB9 := Lib.hid (HXB8.out.below hb9 (Nat.le_refl _))
                clear hb9 m0 m1 m2 m3 m4 m5 m6 m7 m8 m9
                obtain ⟨m0, m1, m2, m3, m4, m5, m6, m7, m8, m9⟩ := row10e HQ9.out
                go_wp2_with fail
                refine (HC1.out _ HXB9.out).mono ?_
                rintro e w10 ⟨rfl, hb10⟩
                have HB10 := Lib.hid (HB9.out.trans (hb10.mono HB9.out.size))
                clear hb10
                go_wp2_with fail
                go_roundw
                case rel => exact ⟨j + 1, d ++ ([32, 32] ++ q.name ++ [32, 61, 32] ++ (tf ++ [32] ++ wFby ++ [32]) ++ te ++ [59, 10]), by omega, by go_num, by simp only [ba_append]; simp [wFby], by simp at hd8 ⊢; omega, by unfold RowKit.Hid; rw [HS.out, HD.out], HB10.out⟩
                case measure => simp [intOf]; omega
              · rw [h1] at m1
                rw [h1, if_neg (by decide), if_neg (by decide)] at hd8 HS
                clear HC2 HL3 h1
                go_wp2_with fail
                refine (HC1.out _ HXB8.out).mono ?_
                rintro e w10 ⟨rfl, hb10⟩
                have HB10 := Lib.hid (HB8.out.trans (hb10.mono HB8.out.size))
                clear hb10
                go_wp2_with fail
                go_roundw
                case rel => exact ⟨j + 1, d ++ ([32, 32] ++ q.name ++ [32, 61, 32] ++ [] ++ te ++ [59, 10]), by omega, by go_num, by simp only [ba_append]; simp, by simp at hd8 ⊢; omega, by unfold RowKit.Hid; rw [HS.out, HD.out], HB10.out⟩
                case measure => simp [intOf]; omega
              · rw [h1] at m1
                rw [h1, if_neg (by decide), if_pos rfl] at hd8 HS
                clear HC2 HL3 h1
                go_wp2_with fail
                refine (HC1.out _ HXB8.out).mono ?_
                rintro e w10 ⟨rfl, hb10⟩
                have HB10 := Lib.hid (HB8.out.trans (hb10.mono HB8.out.size))
                clear hb10
                go_wp2_with fail
                go_roundw
                case rel => exact ⟨j + 1, d ++ ([32, 32] ++ q.name ++ [32, 61, 32] ++ (wPre ++ [32]) ++ te ++ [59, 10]), by omega, by go_num, by simp only [ba_append]; simp [wPre], by simp at hd8 ⊢; omega, by unfold RowKit.Hid; rw [HS.out, HD.out], HB10.out⟩
                case measure => simp [intOf]; omega
            · obtain rfl : j = pe.length := by omega
              have hT : T = (S2 ++ d) ++ [116, 101, 108, 10] := by
                have h1 := HT2.out
                have h2 := HD.out
                rw [List.take_length] at h2
                rw [h1, h2]
              have hTl : T.length ≤ 9223372036854775807 := by rw [hT]; simp; omega
              go_upto_region 24 with (fail)
              rw [str2 (S2 ++ d) [116, 101, 108, 10] T hT]
              clear hT HD HT2
              by_cases hbig : 4096 < T.length
              · go_wp2_with fail
                go_ret2
                exact ⟨by rw [HRR.out, if_pos trivial, if_pos hbig]; rfl, HB2.out.trans (hb.mono HB2.out.size)⟩
              · go_wp2_with fail
                go_ret2
                exact ⟨by rw [HRR.out, if_pos trivial, if_neg hbig]; rfl, HB2.out.trans (hb.mono HB2.out.size)⟩
end Go.Proofs.Ytilkilffkjhhbaa
