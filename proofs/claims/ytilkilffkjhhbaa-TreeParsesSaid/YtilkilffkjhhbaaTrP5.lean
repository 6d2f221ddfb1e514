/-
  The rule expr.
-/
import Derived.Test.YtilkilffkjhhbaaTrPa
namespace Go.Proofs.Ytilkilffkjhhbaa
set_option maxRecDepth 20000
set_option linter.unusedVariables false
open Go.RowKit Tr Mem

set_option maxHeartbeats 8000000 in
theorem expr_of (bp : Nat) (A : Option Addr) (c : Nat) (ts : List Lx.Tok) (s : St) (IH : ∀ (k : Tr.Call) (s' : St), (k = .level 0 ∨ k = .expr) → fuel ts k s' < fuel ts .expr s → Said bp A c ts k s') : Said bp A c ts .expr s := by
  intro w h
  have HR := Lib.hid h
  have hbw := h.lt
  have HIH := Lib.hid IH
  obtain ⟨r, hr⟩ : ∃ r, r = P ts .expr s := ⟨_, rfl⟩
  rw [← hr]
  rw [P_expr] at hr
  have HA := Lib.hid (P_at (ts := ts) (.level 0) s)
  have HS0 := Lib.hid (HIH.out (.level 0) s (.inl rfl) (by simp [fuel, rank]))
  clear h IH
  unfold fnOf argsOf
  dsimp only
  have HW0 : Hid (∀ V, Below w.heap.size w (w.alloc V)) := fun V => (Below.refl _ _).alloc (Nat.le_refl _) V
  generalize hq : P ts (.level 0) s = q at *
  have HSL : Hid (∀ w, RowAt w bp 61 A c ts s → Calls Try.prog 96 #[.pointer (some ⟨bp, 0, none⟩), .int .i64 0] w (Gives w bp A c ts q)) := by unfold RowKit.Hid; rw [← hq]; exact HS0.out
  clear hq HS0
  obtain ⟨x, s1⟩ := q
  dsimp only at *
  have HT := Lib.hid (fun W h => take_any bp A c ts s1 arrow W h)
  unfold arrow at HT
  have hxa : sees ts s1 arrow = sees ts s1 [45, 62] := rfl
  rw [hxa] at hr
  rcases h1 : sees ts s1 [45, 62] with _ | _
  · rw [if_neg (by rw [h1]; decide)] at hr
    rw [h1, if_neg (by decide)] at HT
    subst hr
    clear h1
    go_enter Try.func61, Try.ntmps61
    go_wp2_with fail
    obtain ⟨W0, hW0⟩ : ∃ W0, W0 = w.alloc (.cells zrow 43) := ⟨_, rfl⟩
    unfold zrow at hW0
    rw [← hW0]
    have HB0 : Hid (Below w.heap.size w W0) := by rw [hW0]; exact HW0.out _
    have HZ0 : Hid (W0.heap[w.heap.size]? = some (.cells zrow 43 (0, 0))) := by rw [hW0]; exact heap_alloc_new _ _
    have HK0 : Hid (Took w bp 61 A c ts s W0) := (took_refl HR.out).below HB0.out
    clear hW0
    have hzz1 := (Array.getElem?_eq_some_iff.1 HZ0.out).1
    refine (HSL.out _ HK0.out.1).mono ?_
    rintro e w1 ⟨Ax, cx, rfl, hat, hk⟩
    have HY2 := Lib.hid (hk.row HZ0.out (by omega))
    have HK3 := Lib.hid (HK0.out.trans hk)
    clear HZ0 HK0
    have HX4 := Lib.hid (hat.base (B' := fun b => w.heap.size < b) (fun b hb hl => Nat.lt_of_lt_of_le hzz1 hb))
    clear hat hk
    unfold exAgg
    dsimp only
    go_wp2_with fail
    obtain ⟨W5, hW⟩ : ∃ W, W = w1.alloc (.cells #[.int .i64 x.kind, .int .i32 x.n, .string ⟨x.name.toArray⟩, .slice Ax x.sub.length cx] 43) := ⟨_, rfl⟩
    rw [← hW]
    have hbx : Below w1.heap.size w1 W5 := by rw [hW]; exact (Below.refl _ _).alloc (Nat.le_refl _) _
    have HN5 : Hid (W5.heap[w1.heap.size]? = some (.cells #[.int .i64 x.kind, .int .i32 x.n, .string ⟨x.name.toArray⟩, .slice Ax x.sub.length cx] 43 (0, 0))) := by rw [hW]; exact heap_alloc_new _ _
    have hlo5 : w.heap.size < w1.heap.size := (Array.getElem?_eq_some_iff.1 HY2.out).1
    clear hW
    have HY6 := Lib.hid ((hbx.block _ (Array.getElem?_eq_some_iff.1 HY2.out).1).trans HY2.out)
    have HX7 := Lib.hid (HX4.out.below hbx (Nat.le_refl _))
    have HK8 := Lib.hid (HK3.out.below hbx)
    clear HY2 HX4 HK3
    clear hbx
    refine (HT.out _ HK8.out.1).mono ?_
    rintro e w9 ⟨rfl, hk⟩
    have HY10 := Lib.hid (hk.row HY6.out (by omega))
    have HY11 := Lib.hid (hk.row HN5.out (by omega))
    have HX12 := Lib.hid (HX7.out.took hk (by omega))
    have HK13 := Lib.hid (HK8.out.trans hk)
    clear HY6 HN5 HX7 HK8
    clear hk
    obtain ⟨k0, k1, k2, k3, k4, k5, k6, k7⟩ := row4 HY10.out
    obtain ⟨m0, m1, m2, m3, m4, m5, m6, m7⟩ := row4 HY11.out
    go_wp2_with fail
    exact ret_row 2 rfl rfl rfl (setrow4 HY10.out _ _ _ _) Try.underlying43 infoExS (gives_end HR.out HK13.out Ax cx HX12.out _ _ _ _)
  · rw [if_pos h1] at hr
    have HL := Lib.hid (sees_lt h1)
    rw [h1, if_pos rfl] at HT
    have HS1 := Lib.hid (HIH.out .expr s1.adv (.inr rfl) (by have := HL.out.2; have := HA.out; simp only [fuel, rank, adv_at]; omega))
    clear h1
    generalize hq : P ts .expr s1.adv = q at *
    have HSE : Hid (∀ w, RowAt w bp 61 A c ts s1.adv → Calls Try.prog 61 #[.pointer (some ⟨bp, 0, none⟩)] w (Gives w bp A c ts q)) := by unfold RowKit.Hid; rw [← hq]; exact HS1.out
    clear hq HS1
    obtain ⟨y, s2⟩ := q
    subst hr
    dsimp only
    go_enter Try.func61, Try.ntmps61
    go_wp2_with fail
    obtain ⟨W0, hW0⟩ : ∃ W0, W0 = w.alloc (.cells zrow 43) := ⟨_, rfl⟩
    unfold zrow at hW0
    rw [← hW0]
    have HB0 : Hid (Below w.heap.size w W0) := by rw [hW0]; exact HW0.out _
    have HZ0 : Hid (W0.heap[w.heap.size]? = some (.cells zrow 43 (0, 0))) := by rw [hW0]; exact heap_alloc_new _ _
    have HK0 : Hid (Took w bp 61 A c ts s W0) := (took_refl HR.out).below HB0.out
    clear hW0
    have hzz1 := (Array.getElem?_eq_some_iff.1 HZ0.out).1
    refine (HSL.out _ HK0.out.1).mono ?_
    rintro e w1 ⟨Ax, cx, rfl, hat, hk⟩
    have HY2 := Lib.hid (hk.row HZ0.out (by omega))
    have HK3 := Lib.hid (HK0.out.trans hk)
    clear HZ0 HK0
    have HX4 := Lib.hid (hat.base (B' := fun b => w.heap.size < b) (fun b hb hl => Nat.lt_of_lt_of_le hzz1 hb))
    clear hat hk
    unfold exAgg
    dsimp only
    go_wp2_with fail
    obtain ⟨W5, hW⟩ : ∃ W, W = w1.alloc (.cells #[.int .i64 x.kind, .int .i32 x.n, .string ⟨x.name.toArray⟩, .slice Ax x.sub.length cx] 43) := ⟨_, rfl⟩
    rw [← hW]
    have hbx : Below w1.heap.size w1 W5 := by rw [hW]; exact (Below.refl _ _).alloc (Nat.le_refl _) _
    have HN5 : Hid (W5.heap[w1.heap.size]? = some (.cells #[.int .i64 x.kind, .int .i32 x.n, .string ⟨x.name.toArray⟩, .slice Ax x.sub.length cx] 43 (0, 0))) := by rw [hW]; exact heap_alloc_new _ _
    have hlo5 : w.heap.size < w1.heap.size := (Array.getElem?_eq_some_iff.1 HY2.out).1
    clear hW
    have HY6 := Lib.hid ((hbx.block _ (Array.getElem?_eq_some_iff.1 HY2.out).1).trans HY2.out)
    have HX7 := Lib.hid (HX4.out.below hbx (Nat.le_refl _))
    have HK8 := Lib.hid (HK3.out.below hbx)
    clear HY2 HX4 HK3
    clear hbx
    refine (HT.out _ HK8.out.1).mono ?_
    rintro e w9 ⟨rfl, hk⟩
    have HY10 := Lib.hid (hk.row HY6.out (by omega))
    have HY11 := Lib.hid (hk.row HN5.out (by omega))
    have HX12 := Lib.hid (HX7.out.took hk (by omega))
    have HK13 := Lib.hid (HK8.out.trans hk)
    clear HY6 HN5 HX7 HK8
    clear hk
    obtain ⟨m0, m1, m2, m3, m4, m5, m6, m7⟩ := row4 HY11.out
    go_wp2_with fail
    have hgz : w.heap.size < w9.heap.size := (Array.getElem?_eq_some_iff.1 HY10.out).1
    clear m4 m5 m6 m7
    go_region_held3 (fun W => W.cell? ⟨w1.heap.size, 0, none⟩ = some (.int .i64 x.kind) ∧ W.cell? ⟨w1.heap.size, 1, none⟩ = some (.int .i32 x.n) ∧ W.cell? ⟨w1.heap.size, 2, none⟩ = some (.string ⟨x.name.toArray⟩) ∧ W.cell? ⟨w1.heap.size, 3, none⟩ = some (.slice Ax x.sub.length cx))
      (first | (with_reducible exact row4c (row_drew HY11.out)) | (with_reducible exact row4c HM9.out) | (with_reducible exact row4c (row_alloc HM9.out _)) | (with_reducible exact row4c (v_keep HM9.out (by omega) _ _ _ _ _)))
      ((go_at_call 61; refine (HSE.out _ (HK13.out.1.below (Below.refl _ _).drew (Nat.le_refl _))).mono ?_; rintro e wz ⟨Ay, cy, rfl, hat, hk⟩; have HK9 := Lib.hid ((HK13.out.below (Below.refl _ _).drew).trans hk); have HZ9 : Hid (wz.heap[w.heap.size]? = some (.cells zrow 43 (0, 0))) := hk.row HY10.out (by omega); have HM9 : Hid (wz.heap[w1.heap.size]? = some (.cells #[.int .i64 x.kind, .int .i32 x.n, .string ⟨x.name.toArray⟩, .slice Ax x.sub.length cx] 43 (0, 0))) := hk.row HY11.out (by omega); have HX9 := Lib.hid ((HX12.out.below (Below.refl _ _).drew (Nat.le_refl _)).took hk (by omega)); have HY9 := Lib.hid (hat.base (B' := fun b => w.heap.size < b) (fun b hb hl => Nat.lt_of_lt_of_le hgz hb)); clear hat hk; unfold exAgg; dsimp only; have hz9 := (Array.getElem?_eq_some_iff.1 HZ9.out).1; obtain ⟨n0, n1, n2, n3, _⟩ := row4 HM9.out; obtain ⟨k0, k1, k2, k3, f0, f1, f2, f3⟩ := row4 HZ9.out))
    go_wp2_with fail
    refine ret_row 2 rfl rfl rfl (v_res HZ9.out _ _ _ _ _) Try.underlying43 infoExS ⟨some ⟨wz.heap.size, 0, none⟩, 2, rfl, ?_, v_took HK9.out HR.out _ _ _ _ _⟩
    dsimp only
    rw [at_eq]
    exact atL2 (v_row _ _ _ _ _) (Nat.le_of_lt hz9) (v_at _ _ _ _ _ HX9.out) (v_at _ _ _ _ _ HY9.out)
end Go.Proofs.Ytilkilffkjhhbaa
