/-
  What is told of a code, by the reference of judge: the walk of Check.
-/
import Derived.Test.YtjhopgmionpkoaaJu2
import Derived.Test.YtjhopgmionpkoaaIsa2
import Derived.Deep.DeepCutAuto
namespace Go.Proofs.Ytjhopgmionpkoaa
set_option maxRecDepth 20000
open Go.RowKit Mem

theorem ret_rep2 {fn : Func} {R : Ending → World → Prop} {a : Act} {W : World} {g : Nat} {v0 v1 x y : Value} (s t u : Nat) (hr : fn.results = #[.cell s 58, .tmp t, .tmp u])
    (h2 : a.tmps.getD s undef = .pointer (some ⟨g, 0, none⟩)) (h3 : a.tmps.getD t undef = x) (h4 : a.tmps.getD u undef = y) (hd : a.defers = [])
    (c0 : W.cell? ⟨g, 0, none⟩ = some v0) (c1 : W.cell? ⟨g, 1, none⟩ = some v1)
    (hR : R (.returned (.tuple #[.agg #[v0, v1], x, y])) W) : bodyPost Try.prog fn R .ret a W := by
  refine bodyPost_ret ?_ hd hR
  have h2' : a.tmps[s]?.getD undef = .pointer (some ⟨g, 0, none⟩) := by simpa using h2
  have h3' : a.tmps[t]?.getD undef = x := by simpa using h3
  have h4' : a.tmps[u]?.getD undef = y := by simpa using h4
  simp [results, hr, h2', h3', h4', go_sem, c0, c1]
set_option maxRecDepth 10000 in
set_option maxHeartbeats 4000000 in
theorem reftakes_same (op : Int) (w : World) : Calls Try.prog 59 #[.int .i64 op] w fun e w' => e = .returned (.int .i64 (Ju.takes op)) ∧ w' = w := by
  by_cases h : 1 ≤ op ∧ op ≤ 11
  · rcases (show op = 1 ∨ op = 2 ∨ op = 3 ∨ op = 4 ∨ op = 5 ∨ op = 6 ∨ op = 7 ∨ op = 8 ∨ op = 9 ∨ op = 10 ∨ op = 11 by omega) with rfl | rfl | rfl | rfl | rfl | rfl | rfl | rfl | rfl | rfl | rfl
    all_goals
      go_enter Try.func59, Try.ntmps59
      go_wp2_with fail
      go_ret
      exact ⟨rfl, rfl⟩
  · obtain ⟨z1, z2, z3⟩ := eff_none h ⟨0, 0, 0, 0, 0⟩
    rw [z1]
    have b1 : (op == 1) = false := by simp; omega
    have b2 : (op == 2) = false := by simp; omega
    have b3 : (op == 3) = false := by simp; omega
    have b4 : (op == 4) = false := by simp; omega
    have b5 : (op == 5) = false := by simp; omega
    have b6 : (op == 6) = false := by simp; omega
    have b7 : (op == 7) = false := by simp; omega
    have b8 : (op == 8) = false := by simp; omega
    have b9 : (op == 9) = false := by simp; omega
    have b10 : (op == 10) = false := by simp; omega
    have b11 : (op == 11) = false := by simp; omega
    clear h z1 z2 z3
    go_enter Try.func59, Try.ntmps59
    go_wp2_with fail
    go_ret
    exact ⟨rfl, rfl⟩
/-- only two blocks may have changed -/
structure K2 (g1 g2 : Nat) (w w' : World) : Prop where
  os : w'.os = w.os
  tape : w'.tape = w.tape
  output : w'.output = w.output
  size : w.heap.size ≤ w'.heap.size
  block : ∀ g, g < w.heap.size → g ≠ g1 → g ≠ g2 → w'.heap[g]? = w.heap[g]?
theorem K2.refl (g1 g2 : Nat) (w : World) : K2 g1 g2 w w := ⟨rfl, rfl, rfl, Nat.le_refl _, fun _ _ _ _ => rfl⟩
theorem K2.set {g1 g2 : Nat} {w w' : World} (h : K2 g1 g2 w w') {g : Nat} (hg : g = g1 ∨ g = g2) (j : Nat) (v : Value) : K2 g1 g2 w (w'.setCell ⟨g, j, none⟩ v) :=
  ⟨h.os, h.tape, h.output, by have := h.size; simpa using this, fun q hq h1 h2 => by
    rw [heap_setCell_other _ _ _ _ (by dsimp only; rcases hg with rfl | rfl; exact h1; exact h2)]
    exact h.block q hq h1 h2⟩
theorem K2.drew {g1 g2 : Nat} {w w' : World} (h : K2 g1 g2 w w') : K2 g1 g2 w w'.drew := ⟨h.os, h.tape, h.output, h.size, h.block⟩
theorem K2.below {g1 g2 B : Nat} {w w' : World} (h : K2 g1 g2 w w') (h1 : B ≤ g1) (h2 : B ≤ g2) (hB : B ≤ w.heap.size) : Below B w w' := by
  refine ⟨h.os, h.tape, h.output, h.size, fun g hg => ?_⟩
  exact h.block g (by omega) (by omega) (by omega)
theorem K2.row {g1 g2 g : Nat} {w w' : World} {o : Obj} (h : K2 g1 g2 w w') (hh : w.heap[g]? = some o) (h1 : g ≠ g1) (h2 : g ≠ g2) : w'.heap[g]? = some o := (h.block g (Array.getElem?_eq_some_iff.1 hh).1 h1 h2).trans hh
theorem dOf_upd (s : Ju.St) (t : Nat) (d f : Int) (u : Nat) : dOf (Ju.upd s t (d, f)) u = if u = t then d else dOf s u := by unfold dOf Ju.upd; by_cases e : u = t <;> simp [e]
theorem fOf_upd (s : Ju.St) (t : Nat) (d f : Int) (u : Nat) : fOf (Ju.upd s t (d, f)) u = if u = t then f else fOf s u := by unfold fOf Ju.upd; by_cases e : u = t <;> simp [e]
theorem ways_len (i : Ia.Ins) (k : Nat) : (waysOf i k).length ≤ 2 := by
  unfold waysOf
  split
  · simp
  · split <;> simp
theorem ways_gt (i : Ia.Ins) (k : Nat) : ∀ t ∈ waysOf i k, k < t := by
  intro t ht
  unfold waysOf at ht
  split at ht
  · rw [List.mem_singleton] at ht; subst ht; unfold Ju.tgt; omega
  · split at ht
    · simp only [List.mem_cons, List.not_mem_nil, or_false] at ht
      rcases ht with rfl | rfl
      · omega
      · unfold Ju.tgt; omega
    · rw [List.mem_singleton] at ht; subst ht; omega
def Apart2 (u v : Value) : Prop := u.ownBlock = none ∨ u.ownBlock ≠ v.ownBlock
set_option maxRecDepth 100000 in
set_option maxHeartbeats 16000000 in
theorem refcheck (fr : Ju.Fr) (l : List Ia.Ins) (A : Option Addr) (c : Nat) (w : World) (hA : InsAt w A l) (hn : l.length ≤ 4611686018427387904) (hr : ∀ k (h : k < l.length), -2147483648 ≤ (l[k]'h).n ∧ (l[k]'h).n ≤ 2147483647) :
    Calls Try.prog 31 #[.slice A l.length c, frAgg fr] w fun e w' => JPost fr l w e w' := by
  have HA := Lib.hid hA
  have HR := Lib.hid hr
  have HFR := Lib.hid (fun (W : World) => refframe fr W)
  have HRM := Lib.hid (fun (op : Int) (W : World) => refroom op fr W)
  unfold frAgg at *
  clear hA hr
  by_cases hok : Ju.okFr fr = true
  · have HOK := Lib.hid hok
    have he : frErr fr = 0 := by unfold frErr; rw [if_pos hok]
    rw [he] at HFR
    clear hok he
    by_cases hbig : 600 < l.length
    · have HE : Hid (⟨0, 0, 3, 0⟩ = Ju.check fr l) := by unfold RowKit.Hid Ju.check; rw [if_neg (by rw [HOK.out]; decide), if_pos hbig]
      go_enter Try.func31, Try.ntmps31
      go_wp2_with fail
      obtain ⟨W0, hW0⟩ : ∃ W0, W0 = (w.alloc (.cells #[.int .i64 fr.sl, .int .i64 fr.ol, .int .i64 fr.nw, .int .i64 fr.is, .int .i64 fr.os] 24)).alloc (.cells #[.int .i64 0, .int .i64 0] 58) := ⟨_, rfl⟩
      rw [← hW0]
      have HF0 : Hid (W0.heap[w.heap.size]? = some (.cells #[.int .i64 fr.sl, .int .i64 fr.ol, .int .i64 fr.nw, .int .i64 fr.is, .int .i64 fr.os] 24 (0, 0))) := by unfold RowKit.Hid; rw [hW0]; exact heap_alloc2_old _ _ _
      have HR0 : Hid (W0.heap[w.heap.size + 1]? = some (.cells #[.int .i64 0, .int .i64 0] 58 (0, 0))) := by unfold RowKit.Hid; rw [hW0]; exact heap_alloc2_new _ _ _
      have HB0 : Hid (Below w.heap.size w W0) := by unfold RowKit.Hid; rw [hW0]; exact ((Below.refl _ _).alloc (Nat.le_refl _) _).alloc (by simp) _
      clear hW0
      refine (HFR.out _).mono ?_
      rintro e w1 ⟨rfl, hb1⟩
      have HF1 := Lib.hid ((hb1.block _ (Array.getElem?_eq_some_iff.1 HF0.out).1).trans HF0.out)
      have HR1 := Lib.hid ((hb1.block _ (Array.getElem?_eq_some_iff.1 HR0.out).1).trans HR0.out)
      have HB1 := Lib.hid (HB0.out.trans (hb1.mono HB0.out.size))
      have hlf : w.heap.size + 1 < w1.heap.size := (Array.getElem?_eq_some_iff.1 HR1.out).1
      clear hb1 HF0 HR0 HB0
      have cr0 : w1.cell? ⟨w.heap.size + 1, 0, none⟩ = some (.int .i64 0) := cell_of_row _ _ 0 _ _ (0, 0) HR1.out
      have cr1 : w1.cell? ⟨w.heap.size + 1, 1, none⟩ = some (.int .i64 0) := cell_of_row _ _ 1 _ _ (0, 0) HR1.out
      have fr0 : w1.frozen? ⟨w.heap.size + 1, 0, none⟩ = false := frozen_of_row _ _ _ _ _ HR1.out
      have fr1 : w1.frozen? ⟨w.heap.size + 1, 1, none⟩ = false := frozen_of_row _ _ _ _ _ HR1.out
      repeat (first | go_step | go_values | go_skip | go_guarded | go_upon | (simp only at *; go_simp) | (go_values <;> (try go_simp)) | (go_ite <;> go_prune <;> (try go_simp)))
      refine ret_rep2 (v0 := .int .i64 0) (v1 := .int .i64 0) 4 5 6 rfl rfl rfl rfl rfl ?_ ?_ ?_
      · simp [go_sem, cr0]
      · simp [go_sem, cr1]
      exact ⟨_, HE.out, rfl, ((HB1.out).setCell (by dsimp only; omega) _).setCell (by dsimp only; omega) _⟩
    · have HCR := Lib.hid (check_run HOK.out hbig)
      have hn6 : l.length ≤ 600 := by omega
      obtain ⟨i0, hi, hi0, hi1, hi2⟩ := info_parts infoInt
      go_enter Try.func31, Try.ntmps31
      go_wp2_with fail
      obtain ⟨W0, hW0⟩ : ∃ W0, W0 = (w.alloc (.cells #[.int .i64 fr.sl, .int .i64 fr.ol, .int .i64 fr.nw, .int .i64 fr.is, .int .i64 fr.os] 24)).alloc (.cells #[.int .i64 0, .int .i64 0] 58) := ⟨_, rfl⟩
      rw [← hW0]
      have HF0 : Hid (W0.heap[w.heap.size]? = some (.cells #[.int .i64 fr.sl, .int .i64 fr.ol, .int .i64 fr.nw, .int .i64 fr.is, .int .i64 fr.os] 24 (0, 0))) := by unfold RowKit.Hid; rw [hW0]; exact heap_alloc2_old _ _ _
      have HR0 : Hid (W0.heap[w.heap.size + 1]? = some (.cells #[.int .i64 0, .int .i64 0] 58 (0, 0))) := by unfold RowKit.Hid; rw [hW0]; exact heap_alloc2_new _ _ _
      have HB0 : Hid (Below w.heap.size w W0) := by unfold RowKit.Hid; rw [hW0]; exact ((Below.refl _ _).alloc (Nat.le_refl _) _).alloc (by simp) _
      clear hW0
      refine (HFR.out _).mono ?_
      rintro e w1 ⟨rfl, hb1⟩
      have HF1 := Lib.hid ((hb1.block _ (Array.getElem?_eq_some_iff.1 HF0.out).1).trans HF0.out)
      have HR1 := Lib.hid ((hb1.block _ (Array.getElem?_eq_some_iff.1 HR0.out).1).trans HR0.out)
      have HB1 := Lib.hid (HB0.out.trans (hb1.mono HB0.out.size))
      have hlf : w.heap.size + 1 < w1.heap.size := (Array.getElem?_eq_some_iff.1 HR1.out).1
      clear hb1 HF0 HR0 HB0
      go_wp2_with fail
      go_loopg [8, 9, 10] (l.length + 1) (fun G v u i wr => ∃ j : Nat, j ≤ l.length + 1 ∧ G = l.length + 1 - j ∧ i = .int .i64 j ∧ Hid (wr.ownsRow w1.heap.size 3 1 v j (negs j)) ∧ Hid (wr.ownsRow w1.heap.size 3 1 u j (zers j)) ∧ Hid (Apart2 v u ∧ Apart2 u v) ∧ Hid (Below w1.heap.size w1 wr))
      case atStart => exact ⟨0, by omega, rfl, rfl, World.ownsRow_nil _ _ _ _, World.ownsRow_nil _ _ _ _, ⟨.inl rfl, .inl rfl⟩, Below.refl _ _⟩
      case round =>
        obtain ⟨j, hj, rfl, rfl, hv, hu, hap, hB⟩ := hrel
        by_cases hlt : j ≤ l.length
        · as_aux_lemma =>
            have hbz := hB.out.size
            have r0 : (0 : Int) ≤ j := by omega
            go_wp2_with (at_builtin; refine wpList_append_own_at _ rfl (.tmp 35) (.tmp 36) 85 rfl w1.heap.size 3 i0 (.int .i64 0) 1 8 Try.underlying85 hi hi0 hi1 hi2 rfl (by decide) u8 j (negs j) rfl (hv.out.alloc _) ⟨wr.heap.size, 0, none⟩ 1 1 [.int .i64 (-1)] rfl rfl ?c1 ?c2 ?c3 ?c4 ?c5 ?_)
            case c1 => exact cells_new _ _ _ _ rfl
            case c2 => intro u hu; rw [List.mem_singleton] at hu; subst hu; rfl
            case c3 => unfold maxLen; omega
            case c4 => omega
            case c5 => simp; omega
            intro v2 w3 hown2 hg2 _ hat
            have HBa : Hid (Below w1.heap.size w1 w3) := (hB.out.alloc hB.out.size _).grown hg2 (by simp; omega) (fun g hg => (hv.out.lt g hg).1)
            have HU3 : Hid (w3.ownsRow w1.heap.size 3 1 u9 j (zers j)) := (hu.out.alloc _).kept hg2 hap.out.2
            have HAP3 : Hid (Apart2 v2 u9 ∧ Apart2 u9 v2) := by
              rcases hat with h | h
              · have hp := hap.out
                unfold RowKit.Hid Apart2
                unfold Apart2 at hp
                rw [h]
                exact hp
              · have hne : ∀ g, u9.ownBlock = some g → g < wr.heap.size := fun g hg => (hu.out.lt g hg).2
                have hz : v2.ownBlock = some (wr.heap.size + 1) := by simpa using h
                unfold RowKit.Hid Apart2
                rw [hz]
                rcases hq : u9.ownBlock with _ | g
                · exact ⟨.inr (by simp), .inl rfl⟩
                · have := hne g hq
                  exact ⟨.inr (by simp; omega), .inr (by simp; omega)⟩
            rw [← negs_succ] at hown2
            have HV3 := Lib.hid hown2
            have hbz := HBa.out.size
            clear hown2 hg2 hat
            go_wp2_with (at_builtin; refine wpList_append_own_at _ rfl (.tmp 38) (.tmp 39) 85 rfl w1.heap.size 3 i0 (.int .i64 0) 1 8 Try.underlying85 hi hi0 hi1 hi2 rfl (by decide) u9 j (zers j) rfl (HU3.out.alloc _) ⟨w3.heap.size, 0, none⟩ 1 1 [.int .i64 0] rfl rfl ?d1 ?d2 ?d3 ?d4 ?d5 ?_)
            case d1 => exact cells_new _ _ _ _ rfl
            case d2 => intro u hu; rw [List.mem_singleton] at hu; subst hu; rfl
            case d3 => unfold maxLen; omega
            case d4 => omega
            case d5 => simp; omega
            intro u2 w4 hown4 hg4 _ hat4
            have HBb : Hid (Below w1.heap.size w1 w4) := (HBa.out.alloc HBa.out.size _).grown hg4 (by simp; omega) (fun g hg => (HU3.out.lt g hg).1)
            have HV4 : Hid (w4.ownsRow w1.heap.size 3 1 v2 (j + 1) (negs (j + 1))) := (HV3.out.alloc _).kept hg4 HAP3.out.1
            have HAP4 : Hid (Apart2 v2 u2 ∧ Apart2 u2 v2) := by
              rcases hat4 with h | h
              · have hp := HAP3.out
                unfold RowKit.Hid Apart2
                unfold Apart2 at hp
                rw [h]
                exact hp
              · have hne : ∀ g, v2.ownBlock = some g → g < w3.heap.size := fun g hg => (HV3.out.lt g hg).2
                have hz : u2.ownBlock = some (w3.heap.size + 1) := by simpa using h
                unfold RowKit.Hid Apart2
                rw [hz]
                rcases hq : v2.ownBlock with _ | g
                · exact ⟨.inl rfl, .inr (by simp)⟩
                · have := hne g hq
                  exact ⟨.inr (by simp; omega), .inr (by simp; omega)⟩
            rw [← zers_succ] at hown4
            have HU4 := Lib.hid hown4
            clear hown4 hg4 hat4
            go_wp2_with fail
            go_roundg (l.length + 1 - (j + 1))
            case measure => omega
            case rel => exact ⟨j + 1, by omega, rfl, by go_num, HV4, HU4, HAP4, HBb⟩
        · obtain rfl : j = l.length + 1 := by omega
          obtain ⟨gd, cd, rfl, hgd, hcd, hmd, hod, hRD⟩ := RAt.of_own hv.out
          obtain ⟨gf, cf, rfl, hgf, hcf, hmf, hof, hRF⟩ := RAt.of_own hu.out
          have hne : gd ≠ gf := by
            rcases hap.out.1 with h | h
            · rw [hod] at h; cases h
            · rw [hod, hof] at h; exact fun e => h (by rw [e])
          have hz0 := hRD.cell 0 (Nat.zero_le _)
          have hfz := hRD.frozen 0
          unfold maxLen at hmd hmf
          have HRD := Lib.hid hRD
          have HRF := Lib.hid hRF
          clear hv hu hap hod hof hRD hRF
          have r00 : (0 : Int) < (l.length : Int) + 1 := by omega
          have hbz := hB.out.size
          go_wp2_with fail
          obtain ⟨W2, hW2⟩ : ∃ W2, W2 = wr.setCell ⟨gd, 0, none⟩ (.int .i64 0) := ⟨_, rfl⟩
          rw [← hW2]
          have HD2 : Hid (RAt W2 gd l.length (dOf Ju.first)) := by
            unfold RowKit.Hid
            rw [hW2]
            exact HRD.out.set 0 0 (fun t => by unfold dOf Ju.first; by_cases e : t = 0 <;> simp [e])
          have HF2 : Hid (RAt W2 gf l.length (fOf Ju.first)) := by
            unfold RowKit.Hid
            rw [hW2]
            have e : fOf Ju.first = fun _ => 0 := by funext t; unfold fOf Ju.first; by_cases e : t = 0 <;> simp [e]
            rw [e]
            exact HRF.out.other 0 _ (fun e => hne e.symm)
          have HB2 : Hid (Below w1.heap.size w1 W2) := by unfold RowKit.Hid; rw [hW2]; exact hB.out.setCell (by dsimp only; omega) _
          clear hW2 hz0 hfz HRD HRF hB
          go_loopg [11, 12] l.length (fun G tv i wr => ∃ (k : Nat) (s : Ju.St) (top : Int), k ≤ l.length ∧ G = l.length - k ∧ i = .int .i64 k ∧ tv = .int .i64 top ∧ Hid (Ju.check fr l = Ju.run fr l.length (l.drop k) k s top) ∧ Hid (StOk l.length k s) ∧ Hid (RAt wr gd l.length (dOf s)) ∧ Hid (RAt wr gf l.length (fOf s)) ∧ Hid (Below w1.heap.size w1 wr))
          case atStart => exact ⟨0, Ju.first, 0, Nat.zero_le _, rfl, rfl, rfl, HCR, st_first _, HD2, HF2, HB2⟩
          case round =>
            obtain ⟨k, s, top, hk, rfl, rfl, rfl, hrun, hst, HDx, HFx, HBBx⟩ := hrel
            have HFrx := Lib.hid ((HBBx.out.block _ (by omega)).trans HF1.out)
            have HRrx := Lib.hid ((HBBx.out.block _ (by omega)).trans HR1.out)
            have hzx : w1.heap.size ≤ wr.heap.size := HBBx.out.size
            have hld := HDx.out.lt
            have hlf2 := HFx.out.lt
            by_cases hlt : k < l.length
            · skip
              obtain ⟨b, off, rfl, c0, c1⟩ := (HA.out.below HB1.out (Nat.le_refl _)).below HBBx.out (Nat.le_refl _) k hlt
              obtain ⟨n1, n2⟩ := HR.out k hlt
              have HRE := Lib.hid (fun (E : Int) (hE : E ≠ 0) (hs : (Ju.step fr l.length (l[k]'hlt) k s).1 = E) => (hrun.out.trans (run_step hlt (top := top) (E := E) (S := (Ju.step fr l.length (l[k]'hlt) k s).2.1) (D := (Ju.step fr l.length (l[k]'hlt) k s).2.2) (by rw [← hs]))).trans (if_pos hE))
              have HRS := Lib.hid (fun (S : Ju.St) (D : Int) (hs : Ju.step fr l.length (l[k]'hlt) k s = (0, S, D)) => (hrun.out.trans (run_step hlt (top := top) hs)).trans (if_neg (fun e => e rfl)))
              have HSS := Lib.hid (fun (S : Ju.St) (D : Int) (hs : Ju.step fr l.length (l[k]'hlt) k s = (0, S, D)) => step_st hs hst.out hlt)
              have HRI := Lib.hid (fun (W : World) => refright (l[k]'hlt) W)
              clear hrun
              generalize l[k]'hlt = ins at *
              have r0 : (0 : Int) ≤ k := by omega
              have r1 : (k : Int) < (l.length : Int) := by omega
              have r2 : (k : Int) < (l.length : Int) + 1 := by omega
              go_wp2_with fail
              obtain ⟨wa, hwa⟩ : ∃ wa, wa = wr.alloc (.cells #[.int .i64 ins.op, .int .i32 ins.n] 67) := ⟨_, rfl⟩
              obtain ⟨gi, hgi⟩ : ∃ gi, gi = wr.heap.size := ⟨_, rfl⟩
              rw [← hwa, ← hgi]
              have HIa : Hid (wa.heap[gi]? = some (.cells #[.int .i64 ins.op, .int .i32 ins.n] 67 (0, 0))) := by unfold RowKit.Hid; rw [hwa, hgi]; exact heap_alloc_new _ _
              have HDa : Hid (RAt wa gd l.length (dOf s)) := by unfold RowKit.Hid; rw [hwa]; exact HDx.out.of_eq (heap_alloc_old _ _ hld)
              have HFa : Hid (RAt wa gf l.length (fOf s)) := by unfold RowKit.Hid; rw [hwa]; exact HFx.out.of_eq (heap_alloc_old _ _ hlf2)
              have HFra : Hid (wa.heap[w.heap.size]? = some (.cells #[.int .i64 fr.sl, .int .i64 fr.ol, .int .i64 fr.nw, .int .i64 fr.is, .int .i64 fr.os] 24 (0, 0))) := by unfold RowKit.Hid; rw [hwa]; exact (heap_alloc_old _ _ (by omega)).trans HFrx.out
              have HRra : Hid (wa.heap[w.heap.size + 1]? = some (.cells #[.int .i64 0, .int .i64 0] 58 (0, 0))) := by unfold RowKit.Hid; rw [hwa]; exact (heap_alloc_old _ _ (by omega)).trans HRrx.out
              have HBBa : Hid (Below w1.heap.size w1 wa) := by unfold RowKit.Hid; rw [hwa]; exact HBBx.out.alloc hzx _
              have hgz : w1.heap.size ≤ gi := by omega
              have hgd2 : gd < gi := by omega
              have hgf2 : gf < gi := by omega
              clear hwa hgi c0 c1 HDx HFx HFrx HRrx HBBx
              refine (HRI.out wa).mono ?_
              rintro e wb ⟨rfl, hbb⟩
              have HIb := Lib.hid ((hbb.block _ (Array.getElem?_eq_some_iff.1 HIa.out).1).trans HIa.out)
              have HDb := Lib.hid (HDa.out.below hbb HDa.out.lt)
              have HFb := Lib.hid (HFa.out.below hbb HFa.out.lt)
              have HFrb := Lib.hid ((hbb.block _ (Array.getElem?_eq_some_iff.1 HFra.out).1).trans HFra.out)
              have HRrb := Lib.hid ((hbb.block _ (Array.getElem?_eq_some_iff.1 HRra.out).1).trans HRra.out)
              have HBBb := Lib.hid (HBBa.out.trans (hbb.mono HBBa.out.size))
              clear hbb
              by_cases hrt : Ia.right ins = 0
              · rw [hrt]
                have HRZ := Lib.hid hrt
                obtain ⟨t1, t2, t3, t4⟩ := takes_le ins.op
                have HRM2 := Lib.hid (fun W => HRM.out ins.op W)
                have ci0 : wb.cell? ⟨gi, 0, none⟩ = some (.int .i64 ins.op) := cell_of_row _ _ 0 _ _ (0, 0) HIb.out
                have ci1 : wb.cell? ⟨gi, 1, none⟩ = some (.int .i32 ins.n) := cell_of_row _ _ 1 _ _ (0, 0) HIb.out
                have cf0 : wb.cell? ⟨w.heap.size, 0, none⟩ = some (.int .i64 fr.sl) := cell_of_row _ _ 0 _ _ (0, 0) HFrb.out
                have cf1 : wb.cell? ⟨w.heap.size, 1, none⟩ = some (.int .i64 fr.ol) := cell_of_row _ _ 1 _ _ (0, 0) HFrb.out
                have cf2 : wb.cell? ⟨w.heap.size, 2, none⟩ = some (.int .i64 fr.nw) := cell_of_row _ _ 2 _ _ (0, 0) HFrb.out
                have cf3 : wb.cell? ⟨w.heap.size, 3, none⟩ = some (.int .i64 fr.is) := cell_of_row _ _ 3 _ _ (0, 0) HFrb.out
                have cf4 : wb.cell? ⟨w.heap.size, 4, none⟩ = some (.int .i64 fr.os) := cell_of_row _ _ 4 _ _ (0, 0) HFrb.out
                go_wp2_with fail
                refine (HRM2.out _).mono ?_
                rintro e wc ⟨rfl, hbb⟩
                have HIc := Lib.hid ((hbb.block _ (Array.getElem?_eq_some_iff.1 HIb.out).1).trans HIb.out)
                have HDc := Lib.hid (HDb.out.below hbb HDb.out.lt)
                have HFc := Lib.hid (HFb.out.below hbb HFb.out.lt)
                have HFrc := Lib.hid ((hbb.block _ (Array.getElem?_eq_some_iff.1 HFrb.out).1).trans HFrb.out)
                have HRrc := Lib.hid ((hbb.block _ (Array.getElem?_eq_some_iff.1 HRrb.out).1).trans HRrb.out)
                have HBBc := Lib.hid (HBBb.out.trans (hbb.mono HBBb.out.size))
                clear hbb
                clear ci0 ci1 cf0 cf1 cf2 cf3 cf4
                have ci0 : wc.cell? ⟨gi, 0, none⟩ = some (.int .i64 ins.op) := cell_of_row _ _ 0 _ _ (0, 0) HIc.out
                have ci1 : wc.cell? ⟨gi, 1, none⟩ = some (.int .i32 ins.n) := cell_of_row _ _ 1 _ _ (0, 0) HIc.out
                by_cases hm : 0 ≤ Ju.room ins.op fr ∧ Ju.room ins.op fr ≤ ins.n
                · have HE : Hid (⟨0, 0, 10, k⟩ = Ju.check fr l) := (HRE.out 10 (by decide) (by rw [Ju.step_room HRZ.out hm])).symm
                  obtain ⟨hm1, hm2⟩ := hm
                  generalize Ju.room ins.op fr = rm at *
                  have cr0 : wc.cell? ⟨w.heap.size + 1, 0, none⟩ = some (.int .i64 0) := cell_of_row _ _ 0 _ _ (0, 0) HRrc.out
                  have cr1 : wc.cell? ⟨w.heap.size + 1, 1, none⟩ = some (.int .i64 0) := cell_of_row _ _ 1 _ _ (0, 0) HRrc.out
                  have fr0 : wc.frozen? ⟨w.heap.size + 1, 0, none⟩ = false := frozen_of_row _ _ _ _ _ HRrc.out
                  have fr1 : wc.frozen? ⟨w.heap.size + 1, 1, none⟩ = false := frozen_of_row _ _ _ _ _ HRrc.out
                  repeat (first | go_step | go_values | go_skip | go_guarded | go_upon | (simp only at *; go_simp) | (go_values <;> (try go_simp)) | (go_ite <;> go_prune <;> (try go_simp)))
                  refine ret_rep2 (v0 := .int .i64 0) (v1 := .int .i64 0) 4 5 6 rfl rfl rfl rfl rfl ?_ ?_ ?_
                  · simp [go_sem, cr0]
                  · simp [go_sem, cr1]
                  exact ⟨_, HE.out, rfl, ((HB1.out.trans (HBBc.out.mono HB1.out.size)).setCell (by dsimp only; omega) _).setCell (by dsimp only; omega) _⟩
                · have HNM := Lib.hid hm
                  have hroom : (0 ≤ Ju.room ins.op fr ∧ ¬ Ju.room ins.op fr ≤ ins.n) ∨ ¬ 0 ≤ Ju.room ins.op fr := by omega
                  clear hm
                  go_upto_region 23 with fail
                  go_cut [71] (fun v w' => v = .bool false ∧ w' = wc)
                  case first =>
                    generalize Ju.room ins.op fr = rm at *
                    rcases hroom with ⟨hm1, hm2⟩ | hm1
                    all_goals
                      go_wp2_with fail
                      go_meet
                      case rel => exact ⟨by first | rfl | exact congrArg Value.bool (decide_eq_false (by omega)), rfl⟩
                  case rest =>
                    obtain ⟨rfl, rfl⟩ := hcut
                    clear hroom
                    cases hsk : s k with
                    | none =>
                      have HE : Hid (⟨0, 0, 13, k⟩ = Ju.check fr l) := (HRE.out 13 (by decide) (by rw [Ju.step_reach HRZ.out HNM.out hsk])).symm
                      have pd : wc.cell? ⟨gd, k, none⟩ = some (.int .i64 (-1)) := by rw [HDc.out.cell k hk]; unfold dOf; rw [hsk]
                      generalize Ju.room ins.op fr = rm at *
                      have cr0 : wc.cell? ⟨w.heap.size + 1, 0, none⟩ = some (.int .i64 0) := cell_of_row _ _ 0 _ _ (0, 0) HRrc.out
                      have cr1 : wc.cell? ⟨w.heap.size + 1, 1, none⟩ = some (.int .i64 0) := cell_of_row _ _ 1 _ _ (0, 0) HRrc.out
                      have fr0 : wc.frozen? ⟨w.heap.size + 1, 0, none⟩ = false := frozen_of_row _ _ _ _ _ HRrc.out
                      have fr1 : wc.frozen? ⟨w.heap.size + 1, 1, none⟩ = false := frozen_of_row _ _ _ _ _ HRrc.out
                      repeat (first | go_step | go_values | go_skip | go_guarded | go_upon | (simp only at *; go_simp) | (go_values <;> (try go_simp)) | (go_ite <;> go_prune <;> (try go_simp)))
                      refine ret_rep2 (v0 := .int .i64 0) (v1 := .int .i64 0) 4 5 6 rfl rfl rfl rfl rfl ?_ ?_ ?_
                      · simp [go_sem, cr0]
                      · simp [go_sem, cr1]
                      exact ⟨_, HE.out, rfl, ((HB1.out.trans (HBBc.out.mono HB1.out.size)).setCell (by dsimp only; omega) _).setCell (by dsimp only; omega) _⟩
                    | some v =>
                      obtain ⟨d0, f0⟩ := v
                      obtain ⟨b1, b2, b3, b4⟩ := hst.out.1 k d0 f0 hsk
                      have HSK := Lib.hid hsk
                      have pd : wc.cell? ⟨gd, k, none⟩ = some (.int .i64 d0) := by rw [HDc.out.cell k hk]; unfold dOf; rw [hsk]
                      have HTS := Lib.hid (fun W => reftakes_same ins.op W)
                      have HGV := Lib.hid (fun W => refgives ins.op fr W)
                      have HST4 := Lib.hid (fun h4 => Ju.step_stack (f := fr) (n := l.length) HRZ.out HNM.out HSK.out h4)
                      have HSW := Lib.hid (fun h4 => step_ways (f := fr) HRZ.out HNM.out HSK.out h4 hlt)
                      have hjn := Lib.hid (fun hj => (right_n HRZ.out hj).1)
                      have HWY := Lib.hid (fun (W : World) => refways ins k W (by omega) ⟨n1, n2⟩ hjn.out)
                      clear hsk
                      generalize Ju.room ins.op fr = rm at *
                      generalize Ju.takes ins.op = tk at *
                      generalize Ju.gives ins.op = gv at *
                      go_upto_region 27 with fail
                      go_quiet ((go_at_call 59; exact Calls.quiet_of_same (HTS.out _)))
                      obtain ⟨wq, hwq⟩ : ∃ wq, wq = wc.drewN nq := ⟨_, rfl⟩
                      rw [← hwq]
                      have HIq : Hid (wq.heap[gi]? = some (.cells #[.int .i64 ins.op, .int .i32 ins.n] 67 (0, 0))) := by unfold RowKit.Hid; rw [hwq]; exact HIc.out
                      have HDq : Hid (RAt wq gd l.length (dOf s)) := by unfold RowKit.Hid; rw [hwq]; exact HDc.out
                      have HFq : Hid (RAt wq gf l.length (fOf s)) := by unfold RowKit.Hid; rw [hwq]; exact HFc.out
                      have HFrq : Hid (wq.heap[w.heap.size]? = some (.cells #[.int .i64 fr.sl, .int .i64 fr.ol, .int .i64 fr.nw, .int .i64 fr.is, .int .i64 fr.os] 24 (0, 0))) := by unfold RowKit.Hid; rw [hwq]; exact HFrc.out
                      have HRrq : Hid (wq.heap[w.heap.size + 1]? = some (.cells #[.int .i64 0, .int .i64 0] 58 (0, 0))) := by unfold RowKit.Hid; rw [hwq]; exact HRrc.out
                      have HBBq : Hid (Below w1.heap.size w1 wq) := by unfold RowKit.Hid; rw [hwq]; exact below_drewN HBBc.out _
                      clear hwq ci0 ci1 pd HIc HDc HFc HFrc HRrc HBBc
                      have ci0 : wq.cell? ⟨gi, 0, none⟩ = some (.int .i64 ins.op) := cell_of_row _ _ 0 _ _ (0, 0) HIq.out
                      have ci1 : wq.cell? ⟨gi, 1, none⟩ = some (.int .i32 ins.n) := cell_of_row _ _ 1 _ _ (0, 0) HIq.out
                      by_cases hd1 : d0 < tk
                      · have hd1b : d0 - tk < 0 := by omega
                        have HE : Hid (⟨0, 0, 12, k⟩ = Ju.check fr l) := (HRE.out 12 (by decide) (by rw [HST4.out (.inl hd1)])).symm
                        have cr0 : wq.cell? ⟨w.heap.size + 1, 0, none⟩ = some (.int .i64 0) := cell_of_row _ _ 0 _ _ (0, 0) HRrq.out
                        have cr1 : wq.cell? ⟨w.heap.size + 1, 1, none⟩ = some (.int .i64 0) := cell_of_row _ _ 1 _ _ (0, 0) HRrq.out
                        have fr0 : wq.frozen? ⟨w.heap.size + 1, 0, none⟩ = false := frozen_of_row _ _ _ _ _ HRrq.out
                        have fr1 : wq.frozen? ⟨w.heap.size + 1, 1, none⟩ = false := frozen_of_row _ _ _ _ _ HRrq.out
                        repeat (first | go_step | go_values | go_skip | go_guarded | go_upon | (simp only at *; go_simp) | (go_values <;> (try go_simp)) | (go_ite <;> go_prune <;> (try go_simp)))
                        refine ret_rep2 (v0 := .int .i64 0) (v1 := .int .i64 0) 4 5 6 rfl rfl rfl rfl rfl ?_ ?_ ?_
                        · simp [go_sem, cr0]
                        · simp [go_sem, cr1]
                        exact ⟨_, HE.out, rfl, ((HB1.out.trans (HBBq.out.mono HB1.out.size)).setCell (by dsimp only; omega) _).setCell (by dsimp only; omega) _⟩
                      · have hd1b : ¬ (d0 - tk < 0) := by omega
                        go_wp2_with fail
                        refine (HGV.out _).mono ?_
                        rintro e wd ⟨rfl, hbb⟩
                        have HId := Lib.hid ((hbb.block _ (Array.getElem?_eq_some_iff.1 HIq.out).1).trans HIq.out)
                        have HDd := Lib.hid (HDq.out.below hbb HDq.out.lt)
                        have HFd := Lib.hid (HFq.out.below hbb HFq.out.lt)
                        have HFrd := Lib.hid ((hbb.block _ (Array.getElem?_eq_some_iff.1 HFrq.out).1).trans HFrq.out)
                        have HRrd := Lib.hid ((hbb.block _ (Array.getElem?_eq_some_iff.1 HRrq.out).1).trans HRrq.out)
                        have HBBd := Lib.hid (HBBq.out.trans (hbb.mono HBBq.out.size))
                        clear hbb
                        clear ci0 ci1
                        have ci0 : wd.cell? ⟨gi, 0, none⟩ = some (.int .i64 ins.op) := cell_of_row _ _ 0 _ _ (0, 0) HId.out
                        have ci1 : wd.cell? ⟨gi, 1, none⟩ = some (.int .i32 ins.n) := cell_of_row _ _ 1 _ _ (0, 0) HId.out
                        by_cases hd2 : 16 < d0 - tk + gv
                        · have HE : Hid (⟨0, 0, 12, k⟩ = Ju.check fr l) := (HRE.out 12 (by decide) (by rw [HST4.out (.inr hd2)])).symm
                          have cr0 : wd.cell? ⟨w.heap.size + 1, 0, none⟩ = some (.int .i64 0) := cell_of_row _ _ 0 _ _ (0, 0) HRrd.out
                          have cr1 : wd.cell? ⟨w.heap.size + 1, 1, none⟩ = some (.int .i64 0) := cell_of_row _ _ 1 _ _ (0, 0) HRrd.out
                          have fr0 : wd.frozen? ⟨w.heap.size + 1, 0, none⟩ = false := frozen_of_row _ _ _ _ _ HRrd.out
                          have fr1 : wd.frozen? ⟨w.heap.size + 1, 1, none⟩ = false := frozen_of_row _ _ _ _ _ HRrd.out
                          repeat (first | go_step | go_values | go_skip | go_guarded | go_upon | (simp only at *; go_simp) | (go_values <;> (try go_simp)) | (go_ite <;> go_prune <;> (try go_simp)))
                          refine ret_rep2 (v0 := .int .i64 0) (v1 := .int .i64 0) 4 5 6 rfl rfl rfl rfl rfl ?_ ?_ ?_
                          · simp [go_sem, cr0]
                          · simp [go_sem, cr1]
                          exact ⟨_, HE.out, rfl, ((HB1.out.trans (HBBd.out.mono HB1.out.size)).setCell (by dsimp only; omega) _).setCell (by dsimp only; omega) _⟩
                        · have h4 : ¬ (d0 < tk ∨ 16 < d0 - tk + gv) := by omega
                          obtain ⟨HW11, HW0⟩ := HSW.out h4
                          have HW11 := Lib.hid HW11
                          have HW0 := Lib.hid HW0
                          go_wp2_with fail
                          refine (HGV.out _).mono ?_
                          rintro e we ⟨rfl, hbb⟩
                          have HIe := Lib.hid ((hbb.block _ (Array.getElem?_eq_some_iff.1 HId.out).1).trans HId.out)
                          have HDe := Lib.hid (HDd.out.below hbb HDd.out.lt)
                          have HFe := Lib.hid (HFd.out.below hbb HFd.out.lt)
                          have HFre := Lib.hid ((hbb.block _ (Array.getElem?_eq_some_iff.1 HFrd.out).1).trans HFrd.out)
                          have HRre := Lib.hid ((hbb.block _ (Array.getElem?_eq_some_iff.1 HRrd.out).1).trans HRrd.out)
                          have HBBe := Lib.hid (HBBd.out.trans (hbb.mono HBBd.out.size))
                          clear hbb
                          clear ci0 ci1
                          have ci0 : we.cell? ⟨gi, 0, none⟩ = some (.int .i64 ins.op) := cell_of_row _ _ 0 _ _ (0, 0) HIe.out
                          have ci1 : we.cell? ⟨gi, 1, none⟩ = some (.int .i32 ins.n) := cell_of_row _ _ 1 _ _ (0, 0) HIe.out
                          go_wp2_with fail
                          refine (HWY.out _).mono ?_
                          rintro e wf ⟨gl, rfl, hgl, hrl, hbb⟩
                          have hlte : gi < we.heap.size := (Array.getElem?_eq_some_iff.1 HIe.out).1
                          have HGT := Lib.hid (ways_gt ins k)
                          have hlen2 := ways_len ins k
                          obtain ⟨L, hL⟩ : ∃ L, L = waysOf ins k := ⟨_, rfl⟩
                          rw [← hL] at hrl HW11 HW0 HGT hlen2
                          rw [← hL]
                          clear hL
                          have HRL := Lib.hid hrl
                          have HIf := Lib.hid ((hbb.block _ (Array.getElem?_eq_some_iff.1 HIe.out).1).trans HIe.out)
                          have HDf := Lib.hid (HDe.out.below hbb HDe.out.lt)
                          have HFf := Lib.hid (HFe.out.below hbb HFe.out.lt)
                          have HFrf := Lib.hid ((hbb.block _ (Array.getElem?_eq_some_iff.1 HFre.out).1).trans HFre.out)
                          have HRrf := Lib.hid ((hbb.block _ (Array.getElem?_eq_some_iff.1 HRre.out).1).trans HRre.out)
                          have HBBf := Lib.hid (HBBe.out.trans (hbb.mono HBBe.out.size))
                          clear hbb
                          have hgl1 : gl ≠ gd := by omega
                          have hgl2 : gl ≠ gf := by omega
                          have hgz2 : w1.heap.size ≤ wf.heap.size := HBBf.out.size
                          clear hrl ci0 ci1
                          obtain ⟨d, hdd⟩ : ∃ d, d = d0 - tk + gv := ⟨_, rfl⟩
                          rw [← hdd] at HW0
                          rw [← hdd]
                          have hd0 : 0 ≤ d ∧ d ≤ 16 := by omega
                          clear hdd
                          go_wp2_with fail
                          go_loopg [18] L.length (fun G i wr => ∃ j : Nat, j ≤ L.length ∧ G = L.length - j ∧ i = .int .i64 j ∧ wf = wr ∧ Hid (∀ t ∈ L.take j, t ≤ l.length))
                          case atStart => exact ⟨0, Nat.zero_le _, rfl, rfl, rfl, fun t ht => by simp at ht⟩
                          case round =>
                            obtain ⟨j, hj, rfl, rfl, rfl, hall⟩ := hrel
                            by_cases hjl : j < L.length
                            · have hmem : L[j]'hjl ∈ L := List.getElem_mem _
                              have HTK1 : Hid (L.take (j + 1) = L.take j ++ [L[j]'hjl]) := List.take_succ_eq_append_getElem hjl
                              have cl : wf.cell? ⟨gl, j, none⟩ = some (.int .i64 ((L[j]'hjl : Nat) : Int)) := by
                                rw [cell_of_row wf gl j _ _ (0, 0) HRL.out]
                                unfold iCells; rw [List.getElem?_toArray, List.getElem?_map, List.getElem?_eq_getElem hjl]; rfl
                              have HJL := Lib.hid hjl
                              generalize L[j]'hjl = t at *
                              have q0 : (0 : Int) ≤ j := by omega
                              have q1 : (j : Int) < (L.length : Int) := by omega
                              by_cases htn : l.length < t
                              · have htn2 : (l.length : Int) < (t : Int) := by omega
                                have HE : Hid (⟨0, 0, 11, k⟩ = Ju.check fr l) := (HRE.out 11 (by decide) (HW11.out ⟨t, hmem, htn⟩)).symm
                                have cr0 : wf.cell? ⟨w.heap.size + 1, 0, none⟩ = some (.int .i64 0) := cell_of_row _ _ 0 _ _ (0, 0) HRrf.out
                                have cr1 : wf.cell? ⟨w.heap.size + 1, 1, none⟩ = some (.int .i64 0) := cell_of_row _ _ 1 _ _ (0, 0) HRrf.out
                                have fr0 : wf.frozen? ⟨w.heap.size + 1, 0, none⟩ = false := frozen_of_row _ _ _ _ _ HRrf.out
                                have fr1 : wf.frozen? ⟨w.heap.size + 1, 1, none⟩ = false := frozen_of_row _ _ _ _ _ HRrf.out
                                repeat (first | go_step | go_values | go_skip | go_guarded | go_upon | (simp only at *; go_simp) | (go_values <;> (try go_simp)) | (go_ite <;> go_prune <;> (try go_simp)))
                                refine ret_rep2 (v0 := .int .i64 0) (v1 := .int .i64 0) 4 5 6 rfl rfl rfl rfl rfl ?_ ?_ ?_
                                · simp [go_sem, cr0]
                                · simp [go_sem, cr1]
                                exact ⟨_, HE.out, rfl, ((HB1.out.trans (HBBf.out.mono HB1.out.size)).setCell (by dsimp only; omega) _).setCell (by dsimp only; omega) _⟩
                              · have htn2 : ¬ (l.length : Int) < (t : Int) := by omega
                                have HAL : Hid (∀ t' ∈ L.take (j + 1), t' ≤ l.length) := by
                                  unfold RowKit.Hid
                                  rw [HTK1.out]
                                  intro t' ht'
                                  rcases List.mem_append.1 ht' with h | h
                                  · exact hall.out t' h
                                  · rw [List.mem_singleton] at h; omega
                                go_wp2_with fail
                                go_roundg (L.length - (j + 1))
                                case measure => have := HJL.out; omega
                                case rel => exact ⟨j + 1, HJL.out, rfl, by go_num, by first | rfl | trivial, HAL⟩
                            · obtain rfl : j = L.length := by omega
                              have hall2 := hall.out
                              rw [List.take_length] at hall2
                              have HALL := Lib.hid hall2
                              have HW1 := Lib.hid (HW0.out hall2)
                              clear hall hall2 HW0
                              go_wp2_with fail
                              have HCS0 : Hid (comes s d (f0 + 1) (L.take 0) = some s) := rfl
                              go_loopg [19] L.length (fun G i wr => ∃ (j : Nat) (sj : Ju.St), j ≤ L.length ∧ G = L.length - j ∧ i = .int .i64 j ∧ Hid (comes s d (f0 + 1) (L.take j) = some sj) ∧ Hid (sj k = some (d0, f0)) ∧ Hid (∀ t d f, sj t = some (d, f) → 0 ≤ d ∧ d ≤ 16 ∧ 0 ≤ f ∧ f ≤ 601) ∧ Hid (RAt wr gd l.length (dOf sj)) ∧ Hid (RAt wr gf l.length (fOf sj)) ∧ Hid (K2 gd gf wf wr))
                              case atStart => exact ⟨0, s, Nat.zero_le _, rfl, rfl, HCS0, HSK, fun t d f h => by have := hst.out.1 t d f h; omega, HDf, HFf, K2.refl _ _ _⟩
                              case round =>
                                obtain ⟨j, sj, hj, rfl, rfl, hcs, hsj, hbd, hD, hF, hK⟩ := hrel
                                have HIz := Lib.hid (hK.out.row HIf.out (by omega) (by omega))
                                have HRrz := Lib.hid (hK.out.row HRrf.out (by omega) (by omega))
                                have HBBz := Lib.hid (HBBf.out.trans (hK.out.below hgd hgf HBBf.out.size))
                                have hzz := hK.out.size
                                by_cases hjl : j < L.length
                                · have hmem : L[j]'hjl ∈ L := List.getElem_mem _
                                  have HTK1 : Hid (L.take (j + 1) = L.take j ++ [L[j]'hjl]) := List.take_succ_eq_append_getElem hjl
                                  have cl : wr.cell? ⟨gl, j, none⟩ = some (.int .i64 ((L[j]'hjl : Nat) : Int)) := by
                                    rw [cell_of_row wr gl j _ _ (0, 0) (hK.out.row HRL.out hgl1 hgl2)]
                                    unfold iCells; rw [List.getElem?_toArray, List.getElem?_map, List.getElem?_eq_getElem hjl]; rfl
                                  have HJL := Lib.hid hjl
                                  generalize L[j]'hjl = t at *
                                  have htn := HALL.out t hmem
                                  have htk := HGT.out t hmem
                                  have HCN : Hid (∀ q, Ju.come sj t d (f0 + 1) = q → comes s d (f0 + 1) (L.take (j + 1)) = q) := fun q hq => by
                                    rw [HTK1.out, comes_snoc, hcs.out]; exact hq
                                  have q0 : (0 : Int) ≤ j := by omega
                                  have q1 : (j : Int) < (L.length : Int) := by omega
                                  have q2 : (0 : Int) ≤ t := by omega
                                  have q3 : (t : Int) < (l.length : Int) + 1 := by omega
                                  have pdt := hD.out.cell t htn
                                  have pft := hF.out.cell t htn
                                  have pfk : wr.cell? ⟨gf, k, none⟩ = some (.int .i64 f0) := by rw [hF.out.cell k hk]; unfold fOf; rw [hsj.out]
                                  have zd := hD.out.frozen t
                                  have zf := hF.out.frozen t
                                  have hgne : gd ≠ gf := hne
                                  cases hst2 : sj t with
                                  | none =>
                                    have edt : dOf sj t = -1 := by unfold dOf; rw [hst2]
                                    have eft : fOf sj t = 0 := by unfold fOf; rw [hst2]
                                    rw [edt] at pdt
                                    rw [eft] at pft
                                    have HNEW : Hid (comes s d (f0 + 1) (L.take (j + 1)) = some (Ju.upd sj t (d, f0 + 1))) := HCN.out _ (by unfold Ju.come; rw [hst2])
                                    have hgt : (0 : Int) < f0 + 1 := by omega
                                    clear edt eft
                                    have HDn : Hid (RAt ((wr.setCell ⟨gd, t, none⟩ (.int .i64 d)).setCell ⟨gf, t, none⟩ (.int .i64 (f0 + 1))).drew gd l.length (dOf (Ju.upd sj t (d, f0 + 1)))) := (hD.out.set t d (fun u => dOf_upd _ _ _ _ u)).other t _ hgne
                                    have HFn : Hid (RAt ((wr.setCell ⟨gd, t, none⟩ (.int .i64 d)).setCell ⟨gf, t, none⟩ (.int .i64 (f0 + 1))).drew gf l.length (fOf (Ju.upd sj t (d, f0 + 1)))) := (hF.out.other t _ (fun e => hgne e.symm)).set t (f0 + 1) (fun u => fOf_upd _ _ _ _ u)
                                    have HKn := Lib.hid (((hK.out.set (.inl rfl) t (.int .i64 d)).set (.inr rfl) t (.int .i64 (f0 + 1))).drew)
                                    have HSn : Hid (Ju.upd sj t (d, f0 + 1) k = some (d0, f0)) := by unfold RowKit.Hid Ju.upd; rw [if_neg (by omega)]; exact hsj.out
                                    have HBn : Hid (∀ t' d' f', Ju.upd sj t (d, f0 + 1) t' = some (d', f') → 0 ≤ d' ∧ d' ≤ 16 ∧ 0 ≤ f' ∧ f' ≤ 601) := by
                                      intro t' d' f' h
                                      unfold Ju.upd at h
                                      split at h
                                      · injection h with h; injection h with h1 h2; omega
                                      · exact hbd.out t' d' f' h
                                    go_upto_region 44 with fail
                                    go_big_region
                                    go_wp2_with fail
                                    go_roundg (L.length - (j + 1))
                                    case measure => have := HJL.out; omega
                                    case rel => exact ⟨j + 1, Ju.upd sj t (d, f0 + 1), HJL.out, rfl, by go_num, HNEW, HSn, HBn, HDn, HFn, HKn⟩
                                  | some v =>
                                    obtain ⟨d', f'⟩ := v
                                    obtain ⟨x1, x2, x3, x4⟩ := hbd.out t d' f' hst2
                                    have edt : dOf sj t = d' := by unfold dOf; rw [hst2]
                                    have eft : fOf sj t = f' := by unfold fOf; rw [hst2]
                                    rw [edt] at pdt
                                    rw [eft] at pft
                                    by_cases hdq : d' = d
                                    · rw [hdq] at pdt
                                      by_cases hff : f' < f0 + 1
                                      · have HNEW : Hid (comes s d (f0 + 1) (L.take (j + 1)) = some (Ju.upd sj t (d, f0 + 1))) := HCN.out _ (by unfold Ju.come; rw [hst2]; dsimp only; rw [if_pos hdq, Int.max_eq_right (by omega)])
                                        clear edt eft hdq
                                        have HDn : Hid (RAt ((wr.setCell ⟨gd, t, none⟩ (.int .i64 d)).setCell ⟨gf, t, none⟩ (.int .i64 (f0 + 1))).drew gd l.length (dOf (Ju.upd sj t (d, f0 + 1)))) := (hD.out.set t d (fun u => dOf_upd _ _ _ _ u)).other t _ hgne
                                        have HFn : Hid (RAt ((wr.setCell ⟨gd, t, none⟩ (.int .i64 d)).setCell ⟨gf, t, none⟩ (.int .i64 (f0 + 1))).drew gf l.length (fOf (Ju.upd sj t (d, f0 + 1)))) := (hF.out.other t _ (fun e => hgne e.symm)).set t (f0 + 1) (fun u => fOf_upd _ _ _ _ u)
                                        have HKn := Lib.hid (((hK.out.set (.inl rfl) t (.int .i64 d)).set (.inr rfl) t (.int .i64 (f0 + 1))).drew)
                                        have HSn : Hid (Ju.upd sj t (d, f0 + 1) k = some (d0, f0)) := by unfold RowKit.Hid Ju.upd; rw [if_neg (by omega)]; exact hsj.out
                                        have HBn : Hid (∀ t' d' f', Ju.upd sj t (d, f0 + 1) t' = some (d', f') → 0 ≤ d' ∧ d' ≤ 16 ∧ 0 ≤ f' ∧ f' ≤ 601) := by
                                          intro t' d' f' h
                                          unfold Ju.upd at h
                                          split at h
                                          · injection h with h; injection h with h1 h2; omega
                                          · exact hbd.out t' d' f' h
                                        go_upto_region 44 with fail
                                        go_big_region
                                        go_wp2_with fail
                                        go_roundg (L.length - (j + 1))
                                        case measure => have := HJL.out; omega
                                        case rel => exact ⟨j + 1, Ju.upd sj t (d, f0 + 1), HJL.out, rfl, by go_num, HNEW, HSn, HBn, HDn, HFn, HKn⟩
                                      · have HNEW : Hid (comes s d (f0 + 1) (L.take (j + 1)) = some (Ju.upd sj t (d, f'))) := HCN.out _ (by unfold Ju.come; rw [hst2]; dsimp only; rw [if_pos hdq, Int.max_eq_left (by omega)])
                                        have HDn : Hid (RAt (wr.setCell ⟨gd, t, none⟩ (.int .i64 d)).drew gd l.length (dOf (Ju.upd sj t (d, f')))) := hD.out.set t d (fun u => dOf_upd _ _ _ _ u)
                                        have HFn : Hid (RAt (wr.setCell ⟨gd, t, none⟩ (.int .i64 d)).drew gf l.length (fOf (Ju.upd sj t (d, f')))) := by
                                          have e : fOf (Ju.upd sj t (d, f')) = fOf sj := by
                                            funext u
                                            rw [fOf_upd]
                                            split
                                            · rename_i h; rw [h, eft]
                                            · rfl
                                          unfold RowKit.Hid
                                          rw [e]
                                          exact hF.out.other t _ (fun e => hgne e.symm)
                                        have HKn := Lib.hid ((hK.out.set (.inl rfl) t (.int .i64 d)).drew)
                                        have HSn : Hid (Ju.upd sj t (d, f') k = some (d0, f0)) := by unfold RowKit.Hid Ju.upd; rw [if_neg (by omega)]; exact hsj.out
                                        have HBn : Hid (∀ t' d' f2, Ju.upd sj t (d, f') t' = some (d', f2) → 0 ≤ d' ∧ d' ≤ 16 ∧ 0 ≤ f2 ∧ f2 ≤ 601) := by
                                          intro t' d' f2 h
                                          unfold Ju.upd at h
                                          split at h
                                          · injection h with h; injection h with h1 h2; omega
                                          · exact hbd.out t' d' f2 h
                                        clear edt eft hdq
                                        go_upto_region 44 with fail
                                        go_big_region
                                        go_wp2_with fail
                                        go_roundg (L.length - (j + 1))
                                        case measure => have := HJL.out; omega
                                        case rel => exact ⟨j + 1, Ju.upd sj t (d, f'), HJL.out, rfl, by go_num, HNEW, HSn, HBn, HDn, HFn, HKn⟩
                                    · have hnn : comes s d (f0 + 1) L = none := comes_none d (f0 + 1) L s (j + 1) (HCN.out _ (by unfold Ju.come; rw [hst2]; dsimp only; rw [if_neg hdq]))
                                      have hw1 := HW1.out
                                      rw [hnn] at hw1
                                      have HE : Hid (⟨0, 0, 12, k⟩ = Ju.check fr l) := (HRE.out 12 (by decide) hw1).symm
                                      have hdb : (d' != d) = true := by simpa using hdq
                                      clear hnn hw1 edt eft
                                      have cr0 : wr.cell? ⟨w.heap.size + 1, 0, none⟩ = some (.int .i64 0) := cell_of_row _ _ 0 _ _ (0, 0) HRrz.out
                                      have cr1 : wr.cell? ⟨w.heap.size + 1, 1, none⟩ = some (.int .i64 0) := cell_of_row _ _ 1 _ _ (0, 0) HRrz.out
                                      have fr0 : wr.frozen? ⟨w.heap.size + 1, 0, none⟩ = false := frozen_of_row _ _ _ _ _ HRrz.out
                                      have fr1 : wr.frozen? ⟨w.heap.size + 1, 1, none⟩ = false := frozen_of_row _ _ _ _ _ HRrz.out
                                      repeat (first | go_step | go_values | go_skip | go_guarded | go_upon | (simp only at *; go_simp) | (go_values <;> (try go_simp)) | (go_ite <;> go_prune <;> (try go_simp)))
                                      refine ret_rep2 (v0 := .int .i64 0) (v1 := .int .i64 0) 4 5 6 rfl rfl rfl rfl rfl ?_ ?_ ?_
                                      · simp [go_sem, cr0]
                                      · simp [go_sem, cr1]
                                      exact ⟨_, HE.out, rfl, ((HB1.out.trans (HBBz.out.mono HB1.out.size)).setCell (by dsimp only; omega) _).setCell (by dsimp only; omega) _⟩
                                · obtain rfl : j = L.length := by omega
                                  have hcl := hcs.out
                                  rw [List.take_length] at hcl
                                  have hw1 := HW1.out
                                  rw [hcl] at hw1
                                  have HRN := Lib.hid (HRS.out _ _ hw1)
                                  have HSN := Lib.hid (HSS.out _ _ hw1).1
                                  clear hcl hw1
                                  by_cases htd : top < d
                                  · have e : max top d = d := Int.max_eq_right (by omega)
                                    rw [e] at HRN
                                    clear e
                                    go_wp2_with fail
                                    go_roundg (l.length - (k + 1))
                                    case measure => omega
                                    case rel => exact ⟨k + 1, sj, d, by omega, rfl, by go_num, rfl, HRN, HSN, hD, hF, HBBz⟩
                                  · have e : max top d = top := Int.max_eq_left (by omega)
                                    rw [e] at HRN
                                    clear e
                                    go_wp2_with fail
                                    go_roundg (l.length - (k + 1))
                                    case measure => omega
                                    case rel => exact ⟨k + 1, sj, top, by omega, rfl, by go_num, rfl, HRN, HSN, hD, hF, HBBz⟩
              · have hrt2 : (Ia.right ins != 0) = true := by simpa using hrt
                have HE : Hid (⟨0, 0, Ia.right ins, k⟩ = Ju.check fr l) := (HRE.out _ hrt (by rw [Ju.step_right hrt])).symm
                clear hrt
                generalize Ia.right ins = E at *
                have cr0 : wb.cell? ⟨w.heap.size + 1, 0, none⟩ = some (.int .i64 0) := cell_of_row _ _ 0 _ _ (0, 0) HRrb.out
                have cr1 : wb.cell? ⟨w.heap.size + 1, 1, none⟩ = some (.int .i64 0) := cell_of_row _ _ 1 _ _ (0, 0) HRrb.out
                have fr0 : wb.frozen? ⟨w.heap.size + 1, 0, none⟩ = false := frozen_of_row _ _ _ _ _ HRrb.out
                have fr1 : wb.frozen? ⟨w.heap.size + 1, 1, none⟩ = false := frozen_of_row _ _ _ _ _ HRrb.out
                repeat (first | go_step | go_values | go_skip | go_guarded | go_upon | (simp only at *; go_simp) | (go_values <;> (try go_simp)) | (go_ite <;> go_prune <;> (try go_simp)))
                refine ret_rep2 (v0 := .int .i64 0) (v1 := .int .i64 0) 4 5 6 rfl rfl rfl rfl rfl ?_ ?_ ?_
                · simp [go_sem, cr0]
                · simp [go_sem, cr1]
                exact ⟨_, HE.out, rfl, ((HB1.out.trans (HBBb.out.mono HB1.out.size)).setCell (by dsimp only; omega) _).setCell (by dsimp only; omega) _⟩
            · obtain rfl : k = l.length := by omega
              have hrn := hrun.out
              rw [List.drop_length] at hrn
              obtain ⟨v, hv⟩ := Option.isSome_iff_exists.1 (hst.out.2 rfl)
              obtain ⟨d, fu⟩ := v
              unfold Ju.run at hrn
              rw [hv] at hrn
              dsimp only at hrn
              have HRN := Lib.hid hrn
              have p1 : wr.cell? ⟨gd, l.length, none⟩ = some (.int .i64 d) := by rw [HDx.out.cell _ (Nat.le_refl _)]; unfold dOf; rw [hv]
              have p2 : wr.cell? ⟨gf, l.length, none⟩ = some (.int .i64 fu) := by rw [HFx.out.cell _ (Nat.le_refl _)]; unfold fOf; rw [hv]
              have r0 : (0 : Int) ≤ l.length := by omega
              have r1 : (l.length : Int) < (l.length : Int) + 1 := by omega
              clear hrn hv hrun
              have cr0 : wr.cell? ⟨w.heap.size + 1, 0, none⟩ = some (.int .i64 0) := cell_of_row _ _ 0 _ _ (0, 0) HRrx.out
              have cr1 : wr.cell? ⟨w.heap.size + 1, 1, none⟩ = some (.int .i64 0) := cell_of_row _ _ 1 _ _ (0, 0) HRrx.out
              have fr0 : wr.frozen? ⟨w.heap.size + 1, 0, none⟩ = false := frozen_of_row _ _ _ _ _ HRrx.out
              have fr1 : wr.frozen? ⟨w.heap.size + 1, 1, none⟩ = false := frozen_of_row _ _ _ _ _ HRrx.out
              by_cases hd : d = 0
              · subst hd
                have HE : Hid (⟨top, fu, 0, 0⟩ = Ju.check fr l) := (HRN.out.trans (if_pos rfl)).symm
                repeat (first | go_step | go_values | go_skip | go_guarded | go_upon | (simp only at *; go_simp) | (go_values <;> (try go_simp)) | (go_ite <;> go_prune <;> (try go_simp)))
                refine ret_rep2 (v0 := .int .i64 top) (v1 := .int .i64 fu) 4 5 6 rfl rfl rfl rfl rfl ?_ ?_ ?_
                · simp [go_sem, cr0]
                · simp [go_sem, cr1]
                exact ⟨_, HE.out, rfl, ((HB1.out.trans (HBBx.out.mono HB1.out.size)).setCell (by dsimp only; omega) _).setCell (by dsimp only; omega) _⟩
              · have HE : Hid (⟨0, 0, 12, l.length⟩ = Ju.check fr l) := (HRN.out.trans (if_neg hd)).symm
                have hne2 : (d != 0) = true := by simpa using hd
                repeat (first | go_step | go_values | go_skip | go_guarded | go_upon | (simp only at *; go_simp) | (go_values <;> (try go_simp)) | (go_ite <;> go_prune <;> (try go_simp)))
                refine ret_rep2 (v0 := .int .i64 0) (v1 := .int .i64 0) 4 5 6 rfl rfl rfl rfl rfl ?_ ?_ ?_
                · simp [go_sem, cr0]
                · simp [go_sem, cr1]
                exact ⟨_, HE.out, rfl, ((HB1.out.trans (HBBx.out.mono HB1.out.size)).setCell (by dsimp only; omega) _).setCell (by dsimp only; omega) _⟩
  · have he : frErr fr = 1 := by unfold frErr; rw [if_neg hok]
    rw [he] at HFR
    have HE : Hid (⟨0, 0, 1, 0⟩ = Ju.check fr l) := by unfold RowKit.Hid Ju.check; rw [if_pos (by simpa using hok)]
    clear hok he
    go_enter Try.func31, Try.ntmps31
    go_wp2_with fail
    obtain ⟨W0, hW0⟩ : ∃ W0, W0 = (w.alloc (.cells #[.int .i64 fr.sl, .int .i64 fr.ol, .int .i64 fr.nw, .int .i64 fr.is, .int .i64 fr.os] 24)).alloc (.cells #[.int .i64 0, .int .i64 0] 58) := ⟨_, rfl⟩
    rw [← hW0]
    have HF0 : Hid (W0.heap[w.heap.size]? = some (.cells #[.int .i64 fr.sl, .int .i64 fr.ol, .int .i64 fr.nw, .int .i64 fr.is, .int .i64 fr.os] 24 (0, 0))) := by unfold RowKit.Hid; rw [hW0]; exact heap_alloc2_old _ _ _
    have HR0 : Hid (W0.heap[w.heap.size + 1]? = some (.cells #[.int .i64 0, .int .i64 0] 58 (0, 0))) := by unfold RowKit.Hid; rw [hW0]; exact heap_alloc2_new _ _ _
    have HB0 : Hid (Below w.heap.size w W0) := by unfold RowKit.Hid; rw [hW0]; exact ((Below.refl _ _).alloc (Nat.le_refl _) _).alloc (by simp) _
    clear hW0
    refine (HFR.out _).mono ?_
    rintro e w1 ⟨rfl, hb1⟩
    have HF1 := Lib.hid ((hb1.block _ (Array.getElem?_eq_some_iff.1 HF0.out).1).trans HF0.out)
    have HR1 := Lib.hid ((hb1.block _ (Array.getElem?_eq_some_iff.1 HR0.out).1).trans HR0.out)
    have HB1 := Lib.hid (HB0.out.trans (hb1.mono HB0.out.size))
    have hlf : w.heap.size + 1 < w1.heap.size := (Array.getElem?_eq_some_iff.1 HR1.out).1
    clear hb1 HF0 HR0 HB0
    have cr0 : w1.cell? ⟨w.heap.size + 1, 0, none⟩ = some (.int .i64 0) := cell_of_row _ _ 0 _ _ (0, 0) HR1.out
    have cr1 : w1.cell? ⟨w.heap.size + 1, 1, none⟩ = some (.int .i64 0) := cell_of_row _ _ 1 _ _ (0, 0) HR1.out
    have fr0 : w1.frozen? ⟨w.heap.size + 1, 0, none⟩ = false := frozen_of_row _ _ _ _ _ HR1.out
    have fr1 : w1.frozen? ⟨w.heap.size + 1, 1, none⟩ = false := frozen_of_row _ _ _ _ _ HR1.out
    repeat (first | go_step | go_values | go_skip | go_guarded | go_upon | (simp only at *; go_simp) | (go_values <;> (try go_simp)) | (go_ite <;> go_prune <;> (try go_simp)))
    refine ret_rep2 (v0 := .int .i64 0) (v1 := .int .i64 0) 4 5 6 rfl rfl rfl rfl rfl ?_ ?_ ?_
    · simp [go_sem, cr0]
    · simp [go_sem, cr1]
    exact ⟨_, HE.out, rfl, ((HB1.out).setCell (by dsimp only; omega) _).setCell (by dsimp only; omega) _⟩
end Go.Proofs.Ytjhopgmionpkoaa
