/-
  The reference's decls and vars.
-/
import Derived.Test.YtilkilffkjhhbaaTrW1
namespace Go.Proofs.Ytilkilffkjhhbaa
set_option maxRecDepth 20000
set_option linter.unusedVariables false
open Go.RowKit Tr Mem

set_option maxRecDepth 100000 in
set_option maxHeartbeats 8000000 in
theorem refdecls_any (l : List Vr) (A : Option Addr) (c : Nat) (w : World) (hA : VarsAt w A l) (hk : ListOk l) :
    Calls Try.prog 51 #[.slice A l.length c] w fun e w' => e = .returned (.string ⟨(decls l).toArray⟩) ∧ Below w.heap.size w w' := by
  have HA := Lib.hid hA
  have hn := hk.1
  have HK := Lib.hid hk.2
  have HDC := Lib.hid (fun v h1 h2 W => refdecl_any v h1 h2 W)
  have HW0 : Hid (∀ V, Below w.heap.size w (w.alloc V)) := fun V => (Below.refl _ _).alloc (Nat.le_refl _) V
  have hdl : ∀ j, (decls (l.take j)).length ≤ 6200 := fun j => by
    have := decls_len (l.take j) (fun v hv => (hk.2 v (List.mem_of_mem_take hv)).2.2)
    rw [List.length_take] at this
    omega
  have HDL := Lib.hid hdl
  have HALL : Hid (decls (l.take l.length) = decls l) := by unfold RowKit.Hid; rw [List.take_length]
  clear hA hk hdl
  go_enter Try.func51, Try.ntmps51
  go_wp2_with fail
  go_loopw [3, 4] (fun v i wr => ∃ (j : Nat) (d : Lx.Bs), j ≤ l.length ∧ i = .int .i64 j ∧ v = .string ⟨d.toArray⟩ ∧ d.length ≤ 6200 ∧ Hid (d = decls (l.take j)) ∧ Below w.heap.size w wr) (fun _ i _ => l.length - (intOf i).toNat)
  case atStart => exact ⟨0, [], Nat.zero_le _, rfl, by rfl, by simp, by rfl, Below.refl _ _⟩
  case round =>
    obtain ⟨j, d, hj, rfl, rfl, hd6, HD, hb⟩ := hrel
    by_cases hlt : j < l.length
    · obtain ⟨b, off, rfl, hbl, c0, c1, c2, c3⟩ := HA.out.in_ hb j hlt
      have HS := Lib.hid (decls_take l j hlt)
      have hkk := HK.out _ (List.getElem_mem hlt)
      have hd7 := HDL.out (j + 1)
      rw [HS.out] at hd7
      generalize l[j]'hlt = v at *
      obtain ⟨k1, k2, k3⟩ := hkk
      have HC := Lib.hid (fun W => HDC.out v (by omega) (by omega) W)
      unfold varAgg at HC
      generalize hdv : declared v = dv at *
      clear hdv
      obtain ⟨vn, vt, vck, vcn⟩ := v
      dsimp only at *
      by_cases h0 : j = 0
      · subst h0
        have hde : d = [] := HD.out
        subst hde
        rw [if_pos rfl] at hd7 HS
        simp only [Nat.zero_mul, Nat.add_zero] at c0 c1 c2 c3
        go_wp2_with fail
        refine (HC.out _).mono ?_
        rintro e w1 ⟨rfl, hb1⟩
        have HB1 := Lib.hid (hb.trans (hb1.mono hb.size))
        clear hb1
        go_wp2_with fail
        go_roundw
        case rel => exact ⟨1, dv, by omega, by go_num, str2 [] dv _ rfl, by omega, by rw [HS.out]; rfl, HB1.out⟩
        case measure => simp [intOf]; omega
      · rw [if_neg h0] at hd7 HS
        have hd8 : d.length + dv.length ≤ 6198 := by rw [← HD.out] at hd7; simp at hd7; omega
        clear hd7
        go_wp2_with fail
        refine (HC.out _).mono ?_
        rintro e w1 ⟨rfl, hb1⟩
        have HB1 := Lib.hid (hb.trans (hb1.mono hb.size))
        clear hb1
        go_wp2_with fail
        go_roundw
        case rel => exact ⟨j + 1, d ++ ([59, 32] ++ dv), by omega, by go_num, str3 d [59, 32] dv _ (by simp), by simp; omega, by rw [HS.out, HD.out]; rfl, HB1.out⟩
        case measure => simp [intOf]; omega
    · obtain rfl : j = l.length := by omega
      go_wp2_with fail
      go_ret
      exact ⟨by rw [← HALL.out, ← HD.out]; rfl, hb⟩
set_option maxRecDepth 100000 in
set_option maxHeartbeats 8000000 in
theorem refvars_any (l : List Vr) (own : Bool) (A : Option Addr) (c : Nat) (w : World) (hA : VarsAt w A l) (hn : l.length ≤ maxLen) (hf : ∀ v ∈ l, VrFit v) :
    Calls Try.prog 82 #[.slice A l.length c, .bool own] w fun e w' => e = .returned (.bool (l.all (varOk own))) ∧ Below w.heap.size w w' := by
  have HA := Lib.hid hA
  have HF := Lib.hid hf
  unfold maxLen at hn
  obtain ⟨r, hr⟩ : ∃ r, r = l.all (varOk own) := ⟨_, rfl⟩
  rw [← hr]
  have HR : Hid ((l.drop 0).all (varOk own) = r) := by unfold RowKit.Hid; rw [List.drop_zero, hr]
  have HN := Lib.hid (fun m h W => refname m h W)
  clear hA hf hr
  go_enter Try.func82, Try.ntmps82
  go_wp2_with fail
  go_loopw [5] (fun i wr => ∃ j : Nat, j ≤ l.length ∧ i = .int .i64 j ∧ Hid ((l.drop j).all (varOk own) = r) ∧ Below w.heap.size w wr) (fun i _ => l.length - (intOf i).toNat)
  case atStart => exact ⟨0, Nat.zero_le _, rfl, HR, Below.refl _ _⟩
  case round =>
    clear HR
    obtain ⟨j, hj, rfl, HJ, hb⟩ := hrel
    by_cases hlt : j < l.length
    · obtain ⟨b, off, rfl, hbl, c0, c1, c2, c3⟩ := HA.out.in_ hb j hlt
      have hfv := HF.out _ (List.getElem_mem hlt)
      have hj2 := HJ.out
      rw [all_drop hlt] at hj2
      obtain ⟨rest, hrest⟩ : ∃ x, x = (l.drop (j + 1)).all (varOk own) := ⟨_, rfl⟩
      rw [← hrest] at hj2
      have HREST := Lib.hid hrest
      clear hrest
      generalize l[j]'hlt = v at *
      obtain ⟨nm, ty, ck, cn⟩ := v
      obtain ⟨f1, f2⟩ := hfv
      dsimp only at *
      have HN1 := Lib.hid (fun W => HN.out nm f1 W)
      have HN2 := Lib.hid (fun W => HN.out cn f2 W)
      unfold varOk at hj2
      dsimp only at hj2
      have hcn : (cn == []) = true → Lx.isName cn = false := fun h => by
        obtain rfl : cn = [] := by simpa using h
        decide
      generalize Lx.isName nm = bn at *
      generalize Lx.isName cn = bc at *
      clear HJ f1 f2
      have hce : (cn == []) = cn.isEmpty := by cases cn <;> rfl
      rw [hce] at hj2 hcn
      generalize hbe : cn.isEmpty = be at *
      have hk : (ck = 0 ∨ ck = 1 ∨ ck = 2) ∨ ((ck == 0) = false ∧ (ck == 1) = false ∧ (ck == 2) = false) := by
        by_cases h : ck = 0 ∨ ck = 1 ∨ ck = 2
        · exact .inl h
        · refine .inr ⟨?_, ?_, ?_⟩ <;> simp <;> omega
      have ht : (ty = 1 ∨ ty = 2) ∨ ((ty != 1) = true ∧ (ty != 2) = true ∧ (ty == 1) = false ∧ (ty == 2) = false) := by
        by_cases h : ty = 1 ∨ ty = 2
        · exact .inl h
        · refine .inr ⟨?_, ?_, ?_, ?_⟩ <;> simp <;> omega
      have HJ2 := Lib.hid hj2
      clear hj2 hce hcn
      go_upto_region 5 with (fail)
      obtain ⟨W4, hW4⟩ : ∃ W4, W4 = wr.alloc (.cells #[.string ⟨nm.toArray⟩, .int .i64 ty, .int .i64 ck, .string ⟨cn.toArray⟩] 73) := ⟨_, rfl⟩
      rw [← hW4]
      have hb4 : Below wr.heap.size wr W4 := by rw [hW4]; exact (Below.refl _ _).alloc (Nat.le_refl _) _
      have HV4 : Hid (W4.heap[wr.heap.size]? = some (.cells #[.string ⟨nm.toArray⟩, .int .i64 ty, .int .i64 ck, .string ⟨cn.toArray⟩] 73 (0, 0))) := by rw [hW4]; exact heap_alloc_new _ _
      have hs4 : wr.heap.size < W4.heap.size := by rw [hW4]; simp
      have HB4 := Lib.hid (hb.trans (hb4.mono hb.size))
      clear hW4 hb4 hb c0 c1 c2 c3
      obtain ⟨k0, k1, k2, k3, -⟩ := row4 HV4.out
      go_wp2_with fail
      refine (HN1.out _).mono ?_
      rintro e w5 ⟨rfl, hb5⟩
      have HB5 := Lib.hid (HB4.out.trans (hb5.mono HB4.out.size))
      have HV5 := Lib.hid ((hb5.block _ hs4).trans HV4.out)
      clear hb5 k0 k1 k2 k3 HV4 HB4 HN1
      obtain ⟨k0, k1, k2, k3, -⟩ := row4 HV5.out
      have hs5 : wr.heap.size < w5.heap.size := (Array.getElem?_eq_some_iff.1 HV5.out).1
      rcases bn with _ | _
      · have HRF : Hid (r = false) := HJ2.out.symm
        go_wp2_with fail
        go_ret
        exact ⟨by rw [HRF.out]; rfl, HB5.out⟩
      rcases ht with ht | ⟨t1, t2, t3, t4⟩
      rotate_left
      · have HRF : Hid (r = false) := by unfold RowKit.Hid; rw [← HJ2.out, t3, t4]; rfl
        go_wp2_with fail
        go_ret
        exact ⟨by rw [HRF.out]; rfl, HB5.out⟩
      have htt : (ty == 1 || ty == 2) = true := by rcases ht with rfl | rfl <;> rfl
      have hj3 := HJ2.out
      rw [htt] at hj3
      have HJ3 := Lib.hid hj3
      clear hj3 htt HJ2
      rcases hk with (rfl | hk) | ⟨q1, q2, q3⟩
      · rcases be with _ | _
        · have HRF : Hid (r = false) := by unfold RowKit.Hid; rw [← HJ3.out]; simp
          rcases ht with rfl | rfl
          all_goals
            rcases own with _ | _
            all_goals
              go_wp2_with fail
              go_ret
              exact ⟨by rw [HRF.out]; rfl, HB5.out⟩
        · have HRT : Hid (rest = r) := by unfold RowKit.Hid; rw [← HJ3.out]; simp
          rcases ht with rfl | rfl
          all_goals
            rcases own with _ | _
            all_goals
              go_wp2_with fail
              go_roundw
              case rel => exact ⟨j + 1, by omega, by go_num, by unfold RowKit.Hid; rw [← HREST.out]; exact HRT.out, HB5.out⟩
              case measure => simp [intOf]; omega
      · rcases own with _ | _
        · have HRF : Hid (r = false) := by unfold RowKit.Hid; rw [← HJ3.out]; rcases hk with rfl | rfl <;> simp
          rcases ht with rfl | rfl <;> rcases hk with rfl | rfl
          all_goals
            go_wp2_with fail
            go_ret
            exact ⟨by rw [HRF.out]; rfl, HB5.out⟩
        · rcases bc with _ | _
          · have HRF : Hid (r = false) := by unfold RowKit.Hid; rw [← HJ3.out]; rcases hk with rfl | rfl <;> simp
            rcases ht with rfl | rfl <;> rcases hk with rfl | rfl
            all_goals
              go_wp2_with fail
              refine (HN2.out _).mono ?_
              rintro e w6 ⟨rfl, hb6⟩
              have HB6 := Lib.hid (HB5.out.trans (hb6.mono HB5.out.size))
              clear hb6
              go_wp2_with fail
              go_ret
              exact ⟨by rw [HRF.out]; rfl, HB6.out⟩
          · have HRT : Hid (rest = r) := by unfold RowKit.Hid; rw [← HJ3.out]; rcases hk with rfl | rfl <;> simp
            rcases ht with rfl | rfl <;> rcases hk with rfl | rfl
            all_goals
              go_wp2_with fail
              refine (HN2.out _).mono ?_
              rintro e w6 ⟨rfl, hb6⟩
              have HB6 := Lib.hid (HB5.out.trans (hb6.mono HB5.out.size))
              clear hb6
              go_wp2_with fail
              go_roundw
              case rel => exact ⟨j + 1, by omega, by go_num, by unfold RowKit.Hid; rw [← HREST.out]; exact HRT.out, HB6.out⟩
              case measure => simp [intOf]; omega
      · have HRF : Hid (r = false) := by unfold RowKit.Hid; rw [← HJ3.out, q1, q2, q3]; simp
        rcases ht with rfl | rfl
        all_goals
          rcases own with _ | _
          all_goals
            go_wp2_with fail
            go_ret
            exact ⟨by rw [HRF.out]; rfl, HB5.out⟩
    · obtain rfl : j = l.length := by omega
      have hrt : r = true := by rw [← HJ.out, all_done]
      subst hrt
      go_wp2_with fail
      go_ret
      exact ⟨rfl, hb⟩
end Go.Proofs.Ytilkilffkjhhbaa
