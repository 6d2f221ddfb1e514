/-
  The reference's rules of expressions together; where a token stands; declarations.
-/
import Derived.Test.YtilkilffkjhhbaaTrZ8
import Derived.Test.YtilkilffkjhhbaaTrPb
namespace Go.Proofs.Ytilkilffkjhhbaa
set_option maxRecDepth 20000
set_option linter.unusedVariables false
open Go.RowKit Tr Mem

theorem rsaid_all (bp : Nat) (A : Option Addr) (c : Nat) (ts : List Lx.Tok) : ∀ (m : Nat) (k : Tr.Call) (s : St), isGo k → k.ok → fuel ts k s ≤ m → rSaid bp A c ts k s := by
  intro m
  induction m with
  | zero => intro k s _ _ h; unfold fuel at h; omega
  | succ m ih =>
    intro k s hg ok hm
    cases k with
    | expr =>
      refine rexpr_of bp A c ts s ?_
      intro k s' hk hlt
      rcases hk with rfl | rfl
      · exact ih _ _ trivial (Nat.zero_le _) (by omega)
      · exact ih _ _ trivial trivial (by omega)
    | level n =>
      have hn : n ≤ 6 := ok
      by_cases h6 : n = 6
      · subst h6
        refine rlevel6_of bp A c ts s ?_
        intro k s' hk hlt
        subst hk
        exact ih _ _ trivial trivial (by omega)
      · refine rlevel_of bp A c ts n (by omega) s ?_
        intro s' hlt
        exact ih _ _ trivial (show n + 1 ≤ 6 by omega) (by omega)
    | loop n x => exact hg.elim
    | unary =>
      refine runary_of bp A c ts s ?_
      intro k s' hk hlt
      rcases hk with rfl | rfl
      · exact ih _ _ trivial trivial (by omega)
      · exact ih _ _ trivial trivial (by omega)
    | factor =>
      refine rfactor_of bp A c ts s ?_
      intro k s' hk hlt
      subst hk
      exact ih _ _ trivial trivial (by omega)
    | floop x => exact hg.elim
    | atom =>
      refine ratom_of bp A c ts s ?_
      intro k s' hk hlt
      rcases hk with rfl | rfl
      · exact ih _ _ trivial trivial (by omega)
      · exact ih _ _ trivial trivial (by omega)
theorem rpexpr (bp : Nat) (A : Option Addr) (c : Nat) (ts : List Lx.Tok) (s : St) (w : World) (h : RowAt w bp 66 A c ts s) : Calls Try.prog 74 #[.pointer (some ⟨bp, 0, none⟩)] w (rGives w bp A c ts (P ts .expr s)) := rsaid_all bp A c ts _ .expr s trivial trivial (Nat.le_refl _) w h
theorem rpunary (bp : Nat) (A : Option Addr) (c : Nat) (ts : List Lx.Tok) (s : St) (w : World) (h : RowAt w bp 66 A c ts s) : Calls Try.prog 72 #[.pointer (some ⟨bp, 0, none⟩)] w (rGives w bp A c ts (P ts .unary s)) := rsaid_all bp A c ts _ .unary s trivial trivial (Nat.le_refl _) w h
set_option maxHeartbeats 4000000 in
theorem refplace_any (A : Option Addr) (c : Nat) (ts : List Lx.Tok) (s : St) (N : Int) (w : World) (hT : TokAt w A ts) (hlen : ts.length ≤ 4096) :
    Calls Try.prog 43 #[.slice A ts.length c, .int .i64 (s.at_ : Int), .int .i64 N] w fun e w' => e = .returned (.int .i64 (plc ts s N)) ∧ w = w' := by
  unfold plc
  by_cases hlt : s.at_ < ts.length
  · rw [if_pos hlt]
    obtain ⟨b, off, rfl, t0, t1, t2, t3⟩ := hT s.at_ hlt
    have hg : ts.getD s.at_ ⟨0, [], 0, 0⟩ = ts[s.at_]'hlt := by simp [hlt]
    rw [hg]
    have r0 : (0 : Int) ≤ (s.at_ : Int) := by omega
    have r1 : (s.at_ : Int) < (ts.length : Int) := by omega
    generalize ts[s.at_]'hlt = t at *
    clear hg hT hlt t0 t1 t2
    go_enter Try.func43, Try.ntmps43
    go_wp2_with fail
    go_ret
    exact ⟨rfl, rfl⟩
  · rw [if_neg hlt]
    have r1 : ¬ (s.at_ : Int) < (ts.length : Int) := by omega
    clear hT hlt
    go_enter Try.func43, Try.ntmps43
    go_wp2_with fail
    go_ret
    exact ⟨rfl, rfl⟩
set_option maxHeartbeats 8000000 in
theorem rdeclared_any (bp : Nat) (A : Option Addr) (c : Nat) (ts : List Lx.Tok) (s : St) (w : World) (h : RowAt w bp 66 A c ts s) :
    Calls Try.prog 71 #[.pointer (some ⟨bp, 0, none⟩)] w (DeclPost w bp 66 A c ts (declP ts s)) := by
  have HR := Lib.hid h
  have hbw := h.lt
  have HW0 : Hid (∀ V, Below w.heap.size w (w.alloc V)) := fun V => (Below.refl _ _).alloc (Nat.le_refl _) V
  obtain ⟨r, hr⟩ : ∃ r, r = declP ts s := ⟨_, rfl⟩
  rw [← hr]
  unfold declP at hr
  clear h
  unfold Tr.name at hr
  have HC := Lib.hid (fun W h => rkind_any bp A c ts s 1 W h)
  unfold tokAgg at HC
  generalize token ts s 1 = tk at *
  obtain ⟨⟨kd, nm, nn, pl⟩, s1⟩ := tk
  dsimp only at hr HC
  have HN := Lib.hid (fun W h => rneed_any bp A c ts s1 [58] W h)
  generalize Tr.need ts s1 [58] = s2 at *
  have HT := Lib.hid (fun W h => rtake_any bp A c ts s2 wBool W h)
  have HI := Lib.hid (fun W h => rneed_any bp A c ts s2 wInt W h)
  have hfl := fun W => field_text W kd nn pl nm
  rcases h1 : sees ts s2 wBool with _ | _
  · rw [h1, if_neg (by decide)] at hr
    rw [h1, if_neg (by decide)] at HT
    subst hr
    clear h1
    unfold wBool at HT
    generalize Tr.need ts s2 wInt = s3 at *
    unfold wInt at HI
    go_enter Try.func71, Try.ntmps71
    go_wp2_with fail
    obtain ⟨W0, hW0⟩ : ∃ W0, W0 = w.alloc (.cells zvar 73) := ⟨_, rfl⟩
    unfold zvar at hW0
    rw [← hW0]
    have HB0 : Hid (Below w.heap.size w W0) := by rw [hW0]; exact HW0.out _
    have HZ0 : Hid (W0.heap[w.heap.size]? = some (.cells zvar 73 (0, 0))) := by rw [hW0]; exact heap_alloc_new _ _
    have HK0 : Hid (Took w bp 66 A c ts s W0) := (took_refl HR.out).below HB0.out
    clear hW0
    refine (HC.out _ HK0.out.1).mono ?_
    rintro e w1 ⟨rfl, hk⟩
    have HY2 := Lib.hid (hk.row HZ0.out (by omega))
    have HK3 := Lib.hid (HK0.out.trans hk)
    clear HZ0 HK0
    clear hk
    go_wp2_with fail
    obtain ⟨W4, hW⟩ : ∃ W, W = w1.alloc (.cells #[.string ⟨nm.toArray⟩, .int .i64 1, .int .i64 0, .string ⟨#[]⟩] 73) := ⟨_, rfl⟩
    rw [← hW]
    have hbx : Below w1.heap.size w1 W4 := by rw [hW]; exact (Below.refl _ _).alloc (Nat.le_refl _) _
    have HN4 : Hid (W4.heap[w1.heap.size]? = some (.cells #[.string ⟨nm.toArray⟩, .int .i64 1, .int .i64 0, .string ⟨#[]⟩] 73 (0, 0))) := by rw [hW]; exact heap_alloc_new _ _
    have hlo4 : w.heap.size < w1.heap.size := (Array.getElem?_eq_some_iff.1 HY2.out).1
    clear hW
    have HY5 := Lib.hid ((hbx.block _ (Array.getElem?_eq_some_iff.1 HY2.out).1).trans HY2.out)
    have HK6 := Lib.hid (HK3.out.below hbx)
    clear HY2 HK3
    clear hbx
    refine (HN.out _ HK6.out.1).mono ?_
    rintro e w7 ⟨rfl, hk⟩
    have HY8 := Lib.hid (hk.row HY5.out (by omega))
    have HY9 := Lib.hid (hk.row HN4.out (by omega))
    have HK10 := Lib.hid (HK6.out.trans hk)
    clear HY5 HN4 HK6
    clear hk
    go_wp2_with fail
    refine (HT.out _ HK10.out.1).mono ?_
    rintro e w11 ⟨rfl, hk⟩
    have HY12 := Lib.hid (hk.row HY8.out (by omega))
    have HY13 := Lib.hid (hk.row HY9.out (by omega))
    have HK14 := Lib.hid (HK10.out.trans hk)
    clear HY8 HY9 HK10
    clear hk
    go_wp2_with fail
    refine (HI.out _ HK14.out.1).mono ?_
    rintro e w15 ⟨rfl, hk⟩
    have HY16 := Lib.hid (hk.row HY12.out (by omega))
    have HY17 := Lib.hid (hk.row HY13.out (by omega))
    have HK18 := Lib.hid (HK14.out.trans hk)
    clear HY12 HY13 HK14
    clear hk
    obtain ⟨k0, k1, k2, k3, k4, k5, k6, k7⟩ := row4 HY16.out
    obtain ⟨m0, m1, m2, m3, m4, m5, m6, m7⟩ := row4 HY17.out
    go_wp2_with fail
    exact ret_row 2 rfl rfl rfl (setrow4 HY16.out _ _ _ _) Try.underlying73 infoVar ⟨rfl, took_set4 HK18.out.1 HK18.out.2 HR.out (Nat.le_refl _) _ _ _ _⟩
  · rw [h1, if_pos rfl] at hr
    rw [h1, if_pos rfl] at HT
    subst hr
    clear h1 HI
    unfold wBool at HT
    go_enter Try.func71, Try.ntmps71
    go_wp2_with fail
    obtain ⟨W0, hW0⟩ : ∃ W0, W0 = w.alloc (.cells zvar 73) := ⟨_, rfl⟩
    unfold zvar at hW0
    rw [← hW0]
    have HB0 : Hid (Below w.heap.size w W0) := by rw [hW0]; exact HW0.out _
    have HZ0 : Hid (W0.heap[w.heap.size]? = some (.cells zvar 73 (0, 0))) := by rw [hW0]; exact heap_alloc_new _ _
    have HK0 : Hid (Took w bp 66 A c ts s W0) := (took_refl HR.out).below HB0.out
    clear hW0
    refine (HC.out _ HK0.out.1).mono ?_
    rintro e w1 ⟨rfl, hk⟩
    have HY2 := Lib.hid (hk.row HZ0.out (by omega))
    have HK3 := Lib.hid (HK0.out.trans hk)
    clear HZ0 HK0
    clear hk
    go_wp2_with fail
    obtain ⟨W4, hW⟩ : ∃ W, W = w1.alloc (.cells #[.string ⟨nm.toArray⟩, .int .i64 1, .int .i64 0, .string ⟨#[]⟩] 73) := ⟨_, rfl⟩
    rw [← hW]
    have hbx : Below w1.heap.size w1 W4 := by rw [hW]; exact (Below.refl _ _).alloc (Nat.le_refl _) _
    have HN4 : Hid (W4.heap[w1.heap.size]? = some (.cells #[.string ⟨nm.toArray⟩, .int .i64 1, .int .i64 0, .string ⟨#[]⟩] 73 (0, 0))) := by rw [hW]; exact heap_alloc_new _ _
    have hlo4 : w.heap.size < w1.heap.size := (Array.getElem?_eq_some_iff.1 HY2.out).1
    clear hW
    have HY5 := Lib.hid ((hbx.block _ (Array.getElem?_eq_some_iff.1 HY2.out).1).trans HY2.out)
    have HK6 := Lib.hid (HK3.out.below hbx)
    clear HY2 HK3
    clear hbx
    refine (HN.out _ HK6.out.1).mono ?_
    rintro e w7 ⟨rfl, hk⟩
    have HY8 := Lib.hid (hk.row HY5.out (by omega))
    have HY9 := Lib.hid (hk.row HN4.out (by omega))
    have HK10 := Lib.hid (HK6.out.trans hk)
    clear HY5 HN4 HK6
    clear hk
    go_wp2_with fail
    refine (HT.out _ HK10.out.1).mono ?_
    rintro e w11 ⟨rfl, hk⟩
    have HY12 := Lib.hid (hk.row HY8.out (by omega))
    have HY13 := Lib.hid (hk.row HY9.out (by omega))
    have HK14 := Lib.hid (HK10.out.trans hk)
    clear HY8 HY9 HK10
    clear hk
    obtain ⟨k0, k1, k2, k3, k4, k5, k6, k7⟩ := row4 HY12.out
    obtain ⟨m0, m1, m2, m3, m4, m5, m6, m7⟩ := row4 HY13.out
    go_upto_region 6 with (fail)
    obtain ⟨W5, hW5⟩ : ∃ W5, W5 = w11.setCell ⟨w1.heap.size, 1, none⟩ (.int .i64 2) := ⟨_, rfl⟩
    rw [← hW5]
    have hlo : w.heap.size < w1.heap.size := by omega
    have HZ5 : Hid (W5.heap[w.heap.size]? = some (.cells zvar 73 (0, 0))) := by rw [hW5]; exact set1_keep HY12.out (by omega) _
    have HM5 : Hid (W5.heap[w1.heap.size]? = some (.cells #[.string ⟨nm.toArray⟩, .int .i64 2, .int .i64 0, .string ⟨#[]⟩] 73 (0, 0))) := by rw [hW5]; exact set1_row HY13.out _
    have HK5 : Hid (Took w bp 66 A c ts s2.adv W5) := by rw [hW5]; exact HK14.out.ours (grown_setCell _ _ _ _) HR.out (by omega)
    clear hW5 k0 m0 k1 m1 k2 m2 k3 m3 k4 m4 k5 m5 k6 m6 k7 m7 HY12 HY13 HK14
    obtain ⟨k0, k1, k2, k3, k4, k5, k6, k7⟩ := row4 HZ5.out
    obtain ⟨m0, m1, m2, m3, m4, m5, m6, m7⟩ := row4 HM5.out
    go_wp2_with fail
    exact ret_row 2 rfl rfl rfl (setrow4 HZ5.out _ _ _ _) Try.underlying73 infoVar ⟨rfl, took_set4 HK5.out.1 HK5.out.2 HR.out (Nat.le_refl _) _ _ _ _⟩
set_option maxHeartbeats 8000000 in
theorem rown_any (bp : Nat) (A : Option Addr) (c : Nat) (ts : List Lx.Tok) (s : St) (w : World) (h : RowAt w bp 66 A c ts s) :
    Calls Try.prog 41 #[.pointer (some ⟨bp, 0, none⟩)] w (DeclPost w bp 66 A c ts (ownP ts s)) := by
  have HR := Lib.hid h
  have hbw := h.lt
  have HW0 : Hid (∀ V, Below w.heap.size w (w.alloc V)) := fun V => (Below.refl _ _).alloc (Nat.le_refl _) V
  obtain ⟨r, hr⟩ : ∃ r, r = ownP ts s := ⟨_, rfl⟩
  rw [← hr]
  unfold ownP at hr
  clear h
  have HC := Lib.hid (fun W h => rdeclared_any bp A c ts s W h)
  generalize declP ts s = d at *
  obtain ⟨⟨vn, vt, vk, vc⟩, s1⟩ := d
  dsimp only at hr HC
  have HTW := Lib.hid (fun W h => rtake_any bp A c ts s1 wWhen W h)
  have HTU := Lib.hid (fun W h => rtake_any bp A c ts s1 wUnless W h)
  rcases h1 : sees ts s1 wWhen with _ | _
  rotate_left
  · rw [h1, if_pos rfl] at hr HTW
    clear h1 HTU
    unfold wWhen at HTW
    unfold Tr.name at hr
    have HCN := Lib.hid (fun W h => rkind_any bp A c ts s1.adv 1 W h)
    unfold tokAgg at HCN
    generalize token ts s1.adv 1 = tk at *
    obtain ⟨⟨kd, cn, nn, pl⟩, s2⟩ := tk
    dsimp only at hr HCN
    have HN := Lib.hid (fun W h => rneed_any bp A c ts s2 [59] W h)
    generalize Tr.need ts s2 [59] = s3 at *
    subst hr
    go_enter Try.func41, Try.ntmps41
    go_wp2_with fail
    obtain ⟨W0, hW0⟩ : ∃ W0, W0 = w.alloc (.cells zvar 73) := ⟨_, rfl⟩
    unfold zvar at hW0
    rw [← hW0]
    have HB0 : Hid (Below w.heap.size w W0) := by rw [hW0]; exact HW0.out _
    have HZ0 : Hid (W0.heap[w.heap.size]? = some (.cells zvar 73 (0, 0))) := by rw [hW0]; exact heap_alloc_new _ _
    have HK0 : Hid (Took w bp 66 A c ts s W0) := (took_refl HR.out).below HB0.out
    clear hW0
    refine (HC.out _ HK0.out.1).mono ?_
    rintro e wd ⟨rfl, hk⟩
    have HY1 := Lib.hid (hk.row HZ0.out (by omega))
    have HK2 := Lib.hid (HK0.out.trans hk)
    clear HZ0 HK0
    clear hk
    unfold varAgg
    dsimp only
    go_wp2_with fail
    obtain ⟨W3, hW⟩ : ∃ W, W = wd.alloc (.cells #[.string ⟨vn.toArray⟩, .int .i64 vt, .int .i64 vk, .string ⟨vc.toArray⟩] 73) := ⟨_, rfl⟩
    rw [← hW]
    have hbx : Below wd.heap.size wd W3 := by rw [hW]; exact (Below.refl _ _).alloc (Nat.le_refl _) _
    have HN3 : Hid (W3.heap[wd.heap.size]? = some (.cells #[.string ⟨vn.toArray⟩, .int .i64 vt, .int .i64 vk, .string ⟨vc.toArray⟩] 73 (0, 0))) := by rw [hW]; exact heap_alloc_new _ _
    have hlo3 : w.heap.size < wd.heap.size := (Array.getElem?_eq_some_iff.1 HY1.out).1
    clear hW
    have HY4 := Lib.hid ((hbx.block _ (Array.getElem?_eq_some_iff.1 HY1.out).1).trans HY1.out)
    have HK5 := Lib.hid (HK2.out.below hbx)
    clear HY1 HK2
    clear hbx
    refine (HTW.out _ HK5.out.1).mono ?_
    rintro e w6 ⟨rfl, hk⟩
    have HY7 := Lib.hid (hk.row HY4.out (by omega))
    have HY8 := Lib.hid (hk.row HN3.out (by omega))
    have HK9 := Lib.hid (HK5.out.trans hk)
    clear HY4 HN3 HK5
    clear hk
    have hfl := fun W => field_text W kd nn pl cn
    go_wp2_with fail
    refine (HCN.out _ HK9.out.1).mono ?_
    rintro e w10 ⟨rfl, hk⟩
    have HY11 := Lib.hid (hk.row HY7.out (by omega))
    have HY12 := Lib.hid (hk.row HY8.out (by omega))
    have HK13 := Lib.hid (HK9.out.trans hk)
    clear HY7 HY8 HK9
    clear hk
    obtain ⟨k0, k1, k2, k3, k4, k5, k6, k7⟩ := row4 HY11.out
    obtain ⟨m0, m1, m2, m3, m4, m5, m6, m7⟩ := row4 HY12.out
    go_upto_region 6 with (fail)
    obtain ⟨W5, hW5⟩ : ∃ W5, W5 = (w10.setCell ⟨wd.heap.size, 2, none⟩ (.int .i64 1)).setCell ⟨wd.heap.size, 3, none⟩ (.string ⟨cn.toArray⟩) := ⟨_, rfl⟩
    rw [← hW5]
    have hlo : w.heap.size < wd.heap.size := by omega
    have HZ5 : Hid (W5.heap[w.heap.size]? = some (.cells zvar 73 (0, 0))) := by rw [hW5]; exact set1_keep (set1_keep HY11.out (by omega) _) (by omega) _
    have HM5 : Hid (W5.heap[wd.heap.size]? = some (.cells #[.string ⟨vn.toArray⟩, .int .i64 vt, .int .i64 1, .string ⟨cn.toArray⟩] 73 (0, 0))) := by rw [hW5]; exact set2_row HY12.out _ _
    have HK5 : Hid (Took w bp 66 A c ts s2 W5) := by rw [hW5]; exact (HK13.out.ours (grown_setCell _ _ _ _) HR.out (by omega)).ours (grown_setCell _ _ _ _) HR.out (by omega)
    clear hW5 hfl k0 m0 k1 m1 k2 m2 k3 m3 k4 m4 k5 m5 k6 m6 k7 m7 HY11 HY12 HK13
    go_wp2_with fail
    refine (HN.out _ HK5.out.1).mono ?_
    rintro e w14 ⟨rfl, hk⟩
    have HY15 := Lib.hid (hk.row HZ5.out (by omega))
    have HY16 := Lib.hid (hk.row HM5.out (by omega))
    have HK17 := Lib.hid (HK5.out.trans hk)
    clear HZ5 HM5 HK5
    clear hk
    obtain ⟨k0, k1, k2, k3, k4, k5, k6, k7⟩ := row4 HY15.out
    obtain ⟨m0, m1, m2, m3, m4, m5, m6, m7⟩ := row4 HY16.out
    go_wp2_with fail
    exact ret_row 2 rfl rfl rfl (setrow4 HY15.out _ _ _ _) Try.underlying73 infoVar ⟨rfl, took_set4 HK17.out.1 HK17.out.2 HR.out (Nat.le_refl _) _ _ _ _⟩
  rw [h1, if_neg (by decide)] at hr HTW
  clear h1
  unfold wWhen at HTW
  rcases h2 : sees ts s1 wUnless with _ | _
  rotate_left
  · rw [h2, if_pos rfl] at hr HTU
    clear h2
    unfold wUnless at HTU
    unfold Tr.name at hr
    have HCN := Lib.hid (fun W h => rkind_any bp A c ts s1.adv 1 W h)
    unfold tokAgg at HCN
    generalize token ts s1.adv 1 = tk at *
    obtain ⟨⟨kd, cn, nn, pl⟩, s2⟩ := tk
    dsimp only at hr HCN
    have HN := Lib.hid (fun W h => rneed_any bp A c ts s2 [59] W h)
    generalize Tr.need ts s2 [59] = s3 at *
    subst hr
    go_enter Try.func41, Try.ntmps41
    go_wp2_with fail
    obtain ⟨W0, hW0⟩ : ∃ W0, W0 = w.alloc (.cells zvar 73) := ⟨_, rfl⟩
    unfold zvar at hW0
    rw [← hW0]
    have HB0 : Hid (Below w.heap.size w W0) := by rw [hW0]; exact HW0.out _
    have HZ0 : Hid (W0.heap[w.heap.size]? = some (.cells zvar 73 (0, 0))) := by rw [hW0]; exact heap_alloc_new _ _
    have HK0 : Hid (Took w bp 66 A c ts s W0) := (took_refl HR.out).below HB0.out
    clear hW0
    refine (HC.out _ HK0.out.1).mono ?_
    rintro e wd ⟨rfl, hk⟩
    have HY1 := Lib.hid (hk.row HZ0.out (by omega))
    have HK2 := Lib.hid (HK0.out.trans hk)
    clear HZ0 HK0
    clear hk
    unfold varAgg
    dsimp only
    go_wp2_with fail
    obtain ⟨W3, hW⟩ : ∃ W, W = wd.alloc (.cells #[.string ⟨vn.toArray⟩, .int .i64 vt, .int .i64 vk, .string ⟨vc.toArray⟩] 73) := ⟨_, rfl⟩
    rw [← hW]
    have hbx : Below wd.heap.size wd W3 := by rw [hW]; exact (Below.refl _ _).alloc (Nat.le_refl _) _
    have HN3 : Hid (W3.heap[wd.heap.size]? = some (.cells #[.string ⟨vn.toArray⟩, .int .i64 vt, .int .i64 vk, .string ⟨vc.toArray⟩] 73 (0, 0))) := by rw [hW]; exact heap_alloc_new _ _
    have hlo3 : w.heap.size < wd.heap.size := (Array.getElem?_eq_some_iff.1 HY1.out).1
    clear hW
    have HY4 := Lib.hid ((hbx.block _ (Array.getElem?_eq_some_iff.1 HY1.out).1).trans HY1.out)
    have HK5 := Lib.hid (HK2.out.below hbx)
    clear HY1 HK2
    clear hbx
    refine (HTW.out _ HK5.out.1).mono ?_
    rintro e w6 ⟨rfl, hk⟩
    have HY7 := Lib.hid (hk.row HY4.out (by omega))
    have HY8 := Lib.hid (hk.row HN3.out (by omega))
    have HK9 := Lib.hid (HK5.out.trans hk)
    clear HY4 HN3 HK5
    clear hk
    go_wp2_with fail
    refine (HTU.out _ HK9.out.1).mono ?_
    rintro e w10 ⟨rfl, hk⟩
    have HY11 := Lib.hid (hk.row HY7.out (by omega))
    have HY12 := Lib.hid (hk.row HY8.out (by omega))
    have HK13 := Lib.hid (HK9.out.trans hk)
    clear HY7 HY8 HK9
    clear hk
    have hfl := fun W => field_text W kd nn pl cn
    go_wp2_with fail
    refine (HCN.out _ HK13.out.1).mono ?_
    rintro e w14 ⟨rfl, hk⟩
    have HY15 := Lib.hid (hk.row HY11.out (by omega))
    have HY16 := Lib.hid (hk.row HY12.out (by omega))
    have HK17 := Lib.hid (HK13.out.trans hk)
    clear HY11 HY12 HK13
    clear hk
    obtain ⟨k0, k1, k2, k3, k4, k5, k6, k7⟩ := row4 HY15.out
    obtain ⟨m0, m1, m2, m3, m4, m5, m6, m7⟩ := row4 HY16.out
    go_upto_region 6 with (fail)
    obtain ⟨W5, hW5⟩ : ∃ W5, W5 = (w14.setCell ⟨wd.heap.size, 2, none⟩ (.int .i64 2)).setCell ⟨wd.heap.size, 3, none⟩ (.string ⟨cn.toArray⟩) := ⟨_, rfl⟩
    rw [← hW5]
    have hlo : w.heap.size < wd.heap.size := by omega
    have HZ5 : Hid (W5.heap[w.heap.size]? = some (.cells zvar 73 (0, 0))) := by rw [hW5]; exact set1_keep (set1_keep HY15.out (by omega) _) (by omega) _
    have HM5 : Hid (W5.heap[wd.heap.size]? = some (.cells #[.string ⟨vn.toArray⟩, .int .i64 vt, .int .i64 2, .string ⟨cn.toArray⟩] 73 (0, 0))) := by rw [hW5]; exact set2_row HY16.out _ _
    have HK5 : Hid (Took w bp 66 A c ts s2 W5) := by rw [hW5]; exact (HK17.out.ours (grown_setCell _ _ _ _) HR.out (by omega)).ours (grown_setCell _ _ _ _) HR.out (by omega)
    clear hW5 hfl k0 m0 k1 m1 k2 m2 k3 m3 k4 m4 k5 m5 k6 m6 k7 m7 HY15 HY16 HK17
    go_wp2_with fail
    refine (HN.out _ HK5.out.1).mono ?_
    rintro e w18 ⟨rfl, hk⟩
    have HY19 := Lib.hid (hk.row HZ5.out (by omega))
    have HY20 := Lib.hid (hk.row HM5.out (by omega))
    have HK21 := Lib.hid (HK5.out.trans hk)
    clear HZ5 HM5 HK5
    clear hk
    obtain ⟨k0, k1, k2, k3, k4, k5, k6, k7⟩ := row4 HY19.out
    obtain ⟨m0, m1, m2, m3, m4, m5, m6, m7⟩ := row4 HY20.out
    go_wp2_with fail
    exact ret_row 2 rfl rfl rfl (setrow4 HY19.out _ _ _ _) Try.underlying73 infoVar ⟨rfl, took_set4 HK21.out.1 HK21.out.2 HR.out (Nat.le_refl _) _ _ _ _⟩
  · rw [h2, if_neg (by decide)] at hr HTU
    clear h2
    unfold wUnless at HTU
    have HN := Lib.hid (fun W h => rneed_any bp A c ts s1 [59] W h)
    generalize Tr.need ts s1 [59] = s3 at *
    subst hr
    go_enter Try.func41, Try.ntmps41
    go_wp2_with fail
    obtain ⟨W0, hW0⟩ : ∃ W0, W0 = w.alloc (.cells zvar 73) := ⟨_, rfl⟩
    unfold zvar at hW0
    rw [← hW0]
    have HB0 : Hid (Below w.heap.size w W0) := by rw [hW0]; exact HW0.out _
    have HZ0 : Hid (W0.heap[w.heap.size]? = some (.cells zvar 73 (0, 0))) := by rw [hW0]; exact heap_alloc_new _ _
    have HK0 : Hid (Took w bp 66 A c ts s W0) := (took_refl HR.out).below HB0.out
    clear hW0
    refine (HC.out _ HK0.out.1).mono ?_
    rintro e wd ⟨rfl, hk⟩
    have HY1 := Lib.hid (hk.row HZ0.out (by omega))
    have HK2 := Lib.hid (HK0.out.trans hk)
    clear HZ0 HK0
    clear hk
    unfold varAgg
    dsimp only
    go_wp2_with fail
    obtain ⟨W3, hW⟩ : ∃ W, W = wd.alloc (.cells #[.string ⟨vn.toArray⟩, .int .i64 vt, .int .i64 vk, .string ⟨vc.toArray⟩] 73) := ⟨_, rfl⟩
    rw [← hW]
    have hbx : Below wd.heap.size wd W3 := by rw [hW]; exact (Below.refl _ _).alloc (Nat.le_refl _) _
    have HN3 : Hid (W3.heap[wd.heap.size]? = some (.cells #[.string ⟨vn.toArray⟩, .int .i64 vt, .int .i64 vk, .string ⟨vc.toArray⟩] 73 (0, 0))) := by rw [hW]; exact heap_alloc_new _ _
    have hlo3 : w.heap.size < wd.heap.size := (Array.getElem?_eq_some_iff.1 HY1.out).1
    clear hW
    have HY4 := Lib.hid ((hbx.block _ (Array.getElem?_eq_some_iff.1 HY1.out).1).trans HY1.out)
    have HK5 := Lib.hid (HK2.out.below hbx)
    clear HY1 HK2
    clear hbx
    refine (HTW.out _ HK5.out.1).mono ?_
    rintro e w6 ⟨rfl, hk⟩
    have HY7 := Lib.hid (hk.row HY4.out (by omega))
    have HY8 := Lib.hid (hk.row HN3.out (by omega))
    have HK9 := Lib.hid (HK5.out.trans hk)
    clear HY4 HN3 HK5
    clear hk
    go_wp2_with fail
    refine (HTU.out _ HK9.out.1).mono ?_
    rintro e w10 ⟨rfl, hk⟩
    have HY11 := Lib.hid (hk.row HY7.out (by omega))
    have HY12 := Lib.hid (hk.row HY8.out (by omega))
    have HK13 := Lib.hid (HK9.out.trans hk)
    clear HY7 HY8 HK9
    clear hk
    go_wp2_with fail
    refine (HN.out _ HK13.out.1).mono ?_
    rintro e w14 ⟨rfl, hk⟩
    have HY15 := Lib.hid (hk.row HY11.out (by omega))
    have HY16 := Lib.hid (hk.row HY12.out (by omega))
    have HK17 := Lib.hid (HK13.out.trans hk)
    clear HY11 HY12 HK13
    clear hk
    obtain ⟨k0, k1, k2, k3, k4, k5, k6, k7⟩ := row4 HY15.out
    obtain ⟨m0, m1, m2, m3, m4, m5, m6, m7⟩ := row4 HY16.out
    go_wp2_with fail
    exact ret_row 2 rfl rfl rfl (setrow4 HY15.out _ _ _ _) Try.underlying73 infoVar ⟨rfl, took_set4 HK17.out.1 HK17.out.2 HR.out (Nat.le_refl _) _ _ _ _⟩
end Go.Proofs.Ytilkilffkjhhbaa
