/-
  The reference's atom.
-/
import Derived.Test.YtilkilffkjhhbaaTrZq
import Derived.Test.YtilkilffkjhhbaaTrZa
import Derived.BigQuiet
import Derived.Deep.QuietTactic
namespace Go.Proofs.Ytilkilffkjhhbaa
set_option maxRecDepth 20000
set_option linter.unusedVariables false
open Go.RowKit Tr Mem

set_option maxRecDepth 100000 in
set_option maxHeartbeats 16000000 in
theorem ratom_true (bp : Nat) (A : Option Addr) (c : Nat) (ts : List Lx.Tok) (s : St) (IH : ∀ (k : Tr.Call) (s' : St), (k = .expr ∨ k = .factor) → fuel ts k s' < fuel ts .atom s → rSaid bp A c ts k s')
    (h0 : isKind ts s 2 = false) (h1 : sees ts s wTrue = true) : rSaid bp A c ts .atom s := by
  intro w h
  have HR := Lib.hid h
  have hbw := h.lt
  have hlen := h.len
  have hle := h.le
  obtain ⟨r, hr⟩ : ∃ r, r = P ts .atom s := ⟨_, rfl⟩
  rw [← hr]
  rw [P_atom] at hr
  have HTK := Lib.hid (fun W s m h => rtake_any bp A c ts s m W h)
  have HND := Lib.hid (fun W s m h => rneed_any bp A c ts s m W h)
  have HIH := Lib.hid IH
  clear h IH
  unfold rfnOf rargsOf
  dsimp only
  have HW0 : Hid (∀ V, Below w.heap.size w (w.alloc V)) := fun V => (Below.refl _ _).alloc (Nat.le_refl _) V

  rw [if_neg (by rw [h0]; decide)] at hr
  rw [if_pos h1] at hr
  have HL := Lib.hid (sees_lt h1)
  have hadv : s.at_ + 1 ≤ s.adv.at_ := Nat.le_refl _
  have HT0 := Lib.hid (fun W h => HTK.out W s wTrue h)
  rw [h1, if_pos rfl] at HT0
  unfold wTrue at HT0
  clear h0 h1
  subst hr
  go_enter Try.func117, Try.ntmps117
  go_wp2_with fail
  obtain ⟨W0, hW0⟩ : ∃ W0, W0 = w.alloc (.cells zrow 43) := ⟨_, rfl⟩
  unfold zrow at hW0
  rw [← hW0]
  have HB0 : Hid (Below w.heap.size w W0) := by rw [hW0]; exact HW0.out _
  have HZ0 : Hid (W0.heap[w.heap.size]? = some (.cells zrow 43 (0, 0))) := by rw [hW0]; exact heap_alloc_new _ _
  have HK0 : Hid (Took w bp 66 A c ts s W0) := (took_refl HR.out).below HB0.out
  clear hW0
  refine (HT0.out _ HK0.out.1).mono ?_
  rintro e w1 ⟨rfl, hk⟩
  have HY2 := Lib.hid (hk.row HZ0.out (by omega))
  have HK3 := Lib.hid (HK0.out.trans hk)
  clear HZ0 HK0
  clear hk
  obtain ⟨k0, k1, k2, k3, k4, k5, k6, k7⟩ := row4 HY2.out
  go_wp2_with fail
  exact ret_row 2 rfl rfl rfl (setrow4 HY2.out _ _ _ _) Try.underlying43 infoExS (rgives_end (r := (.mk 2 1 [] [], s.adv)) HR.out HK3.out none 0 (by rw [at_eq]; exact atL_nil _ _ _) _ _ _ _)
set_option maxRecDepth 100000 in
set_option maxHeartbeats 16000000 in
theorem ratom_false (bp : Nat) (A : Option Addr) (c : Nat) (ts : List Lx.Tok) (s : St) (IH : ∀ (k : Tr.Call) (s' : St), (k = .expr ∨ k = .factor) → fuel ts k s' < fuel ts .atom s → rSaid bp A c ts k s')
    (h0 : isKind ts s 2 = false) (h1 : sees ts s wTrue = false) (h2 : sees ts s wFalse = true) : rSaid bp A c ts .atom s := by
  intro w h
  have HR := Lib.hid h
  have hbw := h.lt
  have hlen := h.len
  have hle := h.le
  obtain ⟨r, hr⟩ : ∃ r, r = P ts .atom s := ⟨_, rfl⟩
  rw [← hr]
  rw [P_atom] at hr
  have HTK := Lib.hid (fun W s m h => rtake_any bp A c ts s m W h)
  have HND := Lib.hid (fun W s m h => rneed_any bp A c ts s m W h)
  have HIH := Lib.hid IH
  clear h IH
  unfold rfnOf rargsOf
  dsimp only
  have HW0 : Hid (∀ V, Below w.heap.size w (w.alloc V)) := fun V => (Below.refl _ _).alloc (Nat.le_refl _) V

  rw [if_neg (by rw [h0]; decide)] at hr
  rw [if_neg (by rw [h1]; decide)] at hr
  rw [if_pos h2] at hr
  have HL := Lib.hid (sees_lt h2)
  have hadv : s.at_ + 1 ≤ s.adv.at_ := Nat.le_refl _
  have HT0 := Lib.hid (fun W h => HTK.out W s wTrue h)
  rw [h1, if_neg (by decide)] at HT0
  unfold wTrue at HT0
  have HT1 := Lib.hid (fun W h => HTK.out W s wFalse h)
  rw [h2, if_pos rfl] at HT1
  unfold wFalse at HT1
  clear h0 h1 h2
  subst hr
  go_enter Try.func117, Try.ntmps117
  go_wp2_with fail
  obtain ⟨W0, hW0⟩ : ∃ W0, W0 = w.alloc (.cells zrow 43) := ⟨_, rfl⟩
  unfold zrow at hW0
  rw [← hW0]
  have HB0 : Hid (Below w.heap.size w W0) := by rw [hW0]; exact HW0.out _
  have HZ0 : Hid (W0.heap[w.heap.size]? = some (.cells zrow 43 (0, 0))) := by rw [hW0]; exact heap_alloc_new _ _
  have HK0 : Hid (Took w bp 66 A c ts s W0) := (took_refl HR.out).below HB0.out
  clear hW0
  refine (HT0.out _ HK0.out.1).mono ?_
  rintro e w1 ⟨rfl, hk⟩
  have HY2 := Lib.hid (hk.row HZ0.out (by omega))
  have HK3 := Lib.hid (HK0.out.trans hk)
  clear HZ0 HK0
  clear hk
  go_wp2_with fail
  refine (HT1.out _ HK3.out.1).mono ?_
  rintro e w4 ⟨rfl, hk⟩
  have HY5 := Lib.hid (hk.row HY2.out (by omega))
  have HK6 := Lib.hid (HK3.out.trans hk)
  clear HY2 HK3
  clear hk
  obtain ⟨k0, k1, k2, k3, k4, k5, k6, k7⟩ := row4 HY5.out
  go_wp2_with fail
  exact ret_row 2 rfl rfl rfl (setrow4 HY5.out _ _ _ _) Try.underlying43 infoExS (rgives_end (r := (.mk 2 0 [] [], s.adv)) HR.out HK6.out none 0 (by rw [at_eq]; exact atL_nil _ _ _) _ _ _ _)
set_option maxRecDepth 100000 in
set_option maxHeartbeats 16000000 in
theorem ratom_brackets (bp : Nat) (A : Option Addr) (c : Nat) (ts : List Lx.Tok) (s : St) (IH : ∀ (k : Tr.Call) (s' : St), (k = .expr ∨ k = .factor) → fuel ts k s' < fuel ts .atom s → rSaid bp A c ts k s')
    (h0 : isKind ts s 2 = false) (h1 : sees ts s wTrue = false) (h2 : sees ts s wFalse = false) (h3 : sees ts s [40] = true) : rSaid bp A c ts .atom s := by
  intro w h
  have HR := Lib.hid h
  have hbw := h.lt
  have hlen := h.len
  have hle := h.le
  obtain ⟨r, hr⟩ : ∃ r, r = P ts .atom s := ⟨_, rfl⟩
  rw [← hr]
  rw [P_atom] at hr
  have HTK := Lib.hid (fun W s m h => rtake_any bp A c ts s m W h)
  have HND := Lib.hid (fun W s m h => rneed_any bp A c ts s m W h)
  have HIH := Lib.hid IH
  clear h IH
  unfold rfnOf rargsOf
  dsimp only
  have HW0 : Hid (∀ V, Below w.heap.size w (w.alloc V)) := fun V => (Below.refl _ _).alloc (Nat.le_refl _) V

  rw [if_neg (by rw [h0]; decide)] at hr
  rw [if_neg (by rw [h1]; decide)] at hr
  rw [if_neg (by rw [h2]; decide)] at hr
  rw [if_pos h3] at hr
  have HL := Lib.hid (sees_lt h3)
  have hadv : s.at_ + 1 ≤ s.adv.at_ := Nat.le_refl _
  have HT0 := Lib.hid (fun W h => HTK.out W s wTrue h)
  rw [h1, if_neg (by decide)] at HT0
  unfold wTrue at HT0
  have HT1 := Lib.hid (fun W h => HTK.out W s wFalse h)
  rw [h2, if_neg (by decide)] at HT1
  unfold wFalse at HT1
  have HT2 := Lib.hid (fun W h => HTK.out W s [40] h)
  rw [h3, if_pos rfl] at HT2
  clear h0 h1 h2 h3
  have HE10 := Lib.hid (HIH.out .expr s.adv (.inl rfl) (by have := HL.out.2; simp only [fuel, rank]; omega))
  have hpaHE1 := P_at (ts := ts) .expr s.adv
  generalize hq : P ts .expr s.adv = q at *
  have HE1 : Hid (∀ w, RowAt w bp 66 A c ts s.adv → Calls Try.prog 74 #[.pointer (some ⟨bp, 0, none⟩)] w (rGives w bp A c ts q)) := by unfold RowKit.Hid; rw [← hq]; exact HE10.out
  clear hq HE10
  obtain ⟨x, s1⟩ := q
  dsimp only at *
  have HN1 := Lib.hid (fun W h => HND.out W s1 [41] h)
  subst hr
  go_enter Try.func117, Try.ntmps117
  go_wp2_with fail
  obtain ⟨W0, hW0⟩ : ∃ W0, W0 = w.alloc (.cells zrow 43) := ⟨_, rfl⟩
  unfold zrow at hW0
  rw [← hW0]
  have HB0 : Hid (Below w.heap.size w W0) := by rw [hW0]; exact HW0.out _
  have HZ0 : Hid (W0.heap[w.heap.size]? = some (.cells zrow 43 (0, 0))) := by rw [hW0]; exact heap_alloc_new _ _
  have HK0 : Hid (Took w bp 66 A c ts s W0) := (took_refl HR.out).below HB0.out
  clear hW0
  refine (HT0.out _ HK0.out.1).mono ?_
  rintro e w1 ⟨rfl, hk⟩
  have HY2 := Lib.hid (hk.row HZ0.out (by omega))
  have HK3 := Lib.hid (HK0.out.trans hk)
  clear HZ0 HK0
  clear hk
  go_wp2_with fail
  refine (HT1.out _ HK3.out.1).mono ?_
  rintro e w4 ⟨rfl, hk⟩
  have HY5 := Lib.hid (hk.row HY2.out (by omega))
  have HK6 := Lib.hid (HK3.out.trans hk)
  clear HY2 HK3
  clear hk
  go_wp2_with fail
  refine (HT2.out _ HK6.out.1).mono ?_
  rintro e w7 ⟨rfl, hk⟩
  have HY8 := Lib.hid (hk.row HY5.out (by omega))
  have HK9 := Lib.hid (HK6.out.trans hk)
  clear HY5 HK6
  clear hk
  go_wp2_with fail
  have hzz10 := (Array.getElem?_eq_some_iff.1 HY8.out).1
  refine (HE1.out _ HK9.out.1).mono ?_
  rintro e w10 ⟨Ax, cx, rfl, hat, hk⟩
  have HY11 := Lib.hid (hk.row HY8.out (by omega))
  have HK12 := Lib.hid (HK9.out.trans hk)
  clear HY8 HK9
  have HX13 := Lib.hid (hat.base (B' := fun b => w.heap.size < b) (fun b hb hl => Nat.lt_of_lt_of_le hzz10 hb))
  clear hat hk
  unfold exAgg
  dsimp only
  go_wp2_with fail
  obtain ⟨W14, hW⟩ : ∃ W, W = w10.alloc (.cells #[.int .i64 x.kind, .int .i32 x.n, .string ⟨x.name.toArray⟩, .slice Ax x.sub.length cx] 43) := ⟨_, rfl⟩
  rw [← hW]
  have hbx : Below w10.heap.size w10 W14 := by rw [hW]; exact (Below.refl _ _).alloc (Nat.le_refl _) _
  have HN14 : Hid (W14.heap[w10.heap.size]? = some (.cells #[.int .i64 x.kind, .int .i32 x.n, .string ⟨x.name.toArray⟩, .slice Ax x.sub.length cx] 43 (0, 0))) := by rw [hW]; exact heap_alloc_new _ _
  have hlo14 : w.heap.size < w10.heap.size := (Array.getElem?_eq_some_iff.1 HY11.out).1
  clear hW
  have HY15 := Lib.hid ((hbx.block _ (Array.getElem?_eq_some_iff.1 HY11.out).1).trans HY11.out)
  have HX16 := Lib.hid (HX13.out.below hbx (Nat.le_refl _))
  have HK17 := Lib.hid (HK12.out.below hbx)
  clear HY11 HX13 HK12
  clear hbx
  refine (HN1.out _ HK17.out.1).mono ?_
  rintro e w18 ⟨rfl, hk⟩
  have HY19 := Lib.hid (hk.row HY15.out (by omega))
  have HY20 := Lib.hid (hk.row HN14.out (by omega))
  have HX21 := Lib.hid (HX16.out.took hk (by omega))
  have HK22 := Lib.hid (HK17.out.trans hk)
  clear HY15 HN14 HX16 HK17
  clear hk
  obtain ⟨k0, k1, k2, k3, k4, k5, k6, k7⟩ := row4 HY19.out
  obtain ⟨m0, m1, m2, m3, m4, m5, m6, m7⟩ := row4 HY20.out
  go_wp2_with fail
  exact ret_row 2 rfl rfl rfl (setrow4 HY19.out _ _ _ _) Try.underlying43 infoExS (rgives_end (r := (x, Tr.need ts s1 [41])) HR.out HK22.out Ax cx HX21.out _ _ _ _)
set_option maxRecDepth 100000 in
set_option maxHeartbeats 16000000 in
theorem ratom_if (bp : Nat) (A : Option Addr) (c : Nat) (ts : List Lx.Tok) (s : St) (IH : ∀ (k : Tr.Call) (s' : St), (k = .expr ∨ k = .factor) → fuel ts k s' < fuel ts .atom s → rSaid bp A c ts k s')
    (h0 : isKind ts s 2 = false) (h1 : sees ts s wTrue = false) (h2 : sees ts s wFalse = false) (h3 : sees ts s [40] = false) (h4 : sees ts s wIf = true) : rSaid bp A c ts .atom s := by
  intro w h
  have HR := Lib.hid h
  have hbw := h.lt
  have hlen := h.len
  have hle := h.le
  obtain ⟨r, hr⟩ : ∃ r, r = P ts .atom s := ⟨_, rfl⟩
  rw [← hr]
  rw [P_atom] at hr
  have HTK := Lib.hid (fun W s m h => rtake_any bp A c ts s m W h)
  have HND := Lib.hid (fun W s m h => rneed_any bp A c ts s m W h)
  have HIH := Lib.hid IH
  clear h IH
  unfold rfnOf rargsOf
  dsimp only
  have HW0 : Hid (∀ V, Below w.heap.size w (w.alloc V)) := fun V => (Below.refl _ _).alloc (Nat.le_refl _) V

  rw [if_neg (by rw [h0]; decide)] at hr
  rw [if_neg (by rw [h1]; decide)] at hr
  rw [if_neg (by rw [h2]; decide)] at hr
  rw [if_neg (by rw [h3]; decide)] at hr
  rw [if_pos h4] at hr
  have HL := Lib.hid (sees_lt h4)
  have hadv : s.at_ + 1 ≤ s.adv.at_ := Nat.le_refl _
  have HT0 := Lib.hid (fun W h => HTK.out W s wTrue h)
  rw [h1, if_neg (by decide)] at HT0
  unfold wTrue at HT0
  have HT1 := Lib.hid (fun W h => HTK.out W s wFalse h)
  rw [h2, if_neg (by decide)] at HT1
  unfold wFalse at HT1
  have HT2 := Lib.hid (fun W h => HTK.out W s [40] h)
  rw [h3, if_neg (by decide)] at HT2
  have HT3 := Lib.hid (fun W h => HTK.out W s wIf h)
  rw [h4, if_pos rfl] at HT3
  unfold wIf at HT3
  clear h0 h1 h2 h3 h4
  have HE10 := Lib.hid (HIH.out .expr s.adv (.inl rfl) (by have := HL.out.2; simp only [fuel, rank]; omega))
  have hpaHE1 := P_at (ts := ts) .expr s.adv
  generalize hq : P ts .expr s.adv = q at *
  have HE1 : Hid (∀ w, RowAt w bp 66 A c ts s.adv → Calls Try.prog 74 #[.pointer (some ⟨bp, 0, none⟩)] w (rGives w bp A c ts q)) := by unfold RowKit.Hid; rw [← hq]; exact HE10.out
  clear hq HE10
  obtain ⟨x, s1⟩ := q
  dsimp only at *
  have HN1 := Lib.hid (fun W h => HND.out W s1 wThen h)
  have hnaHN1 := need_at (ts := ts) s1 wThen
  generalize hs : Tr.need ts s1 wThen = s2 at *
  clear hs
  unfold wThen at HN1
  have HE20 := Lib.hid (HIH.out .expr s2 (.inl rfl) (by have := HL.out.2; simp only [fuel, rank]; omega))
  have hpaHE2 := P_at (ts := ts) .expr s2
  generalize hq : P ts .expr s2 = q at *
  have HE2 : Hid (∀ w, RowAt w bp 66 A c ts s2 → Calls Try.prog 74 #[.pointer (some ⟨bp, 0, none⟩)] w (rGives w bp A c ts q)) := by unfold RowKit.Hid; rw [← hq]; exact HE20.out
  clear hq HE20
  obtain ⟨y, s3⟩ := q
  dsimp only at *
  have HN2 := Lib.hid (fun W h => HND.out W s3 wElse h)
  have hnaHN2 := need_at (ts := ts) s3 wElse
  generalize hs : Tr.need ts s3 wElse = s4 at *
  clear hs
  unfold wElse at HN2
  have HE30 := Lib.hid (HIH.out .expr s4 (.inl rfl) (by have := HL.out.2; simp only [fuel, rank]; omega))
  have hpaHE3 := P_at (ts := ts) .expr s4
  generalize hq : P ts .expr s4 = q at *
  have HE3 : Hid (∀ w, RowAt w bp 66 A c ts s4 → Calls Try.prog 74 #[.pointer (some ⟨bp, 0, none⟩)] w (rGives w bp A c ts q)) := by unfold RowKit.Hid; rw [← hq]; exact HE30.out
  clear hq HE30
  obtain ⟨z, s5⟩ := q
  dsimp only at *
  subst hr
  go_enter Try.func117, Try.ntmps117
  go_wp2_with fail
  obtain ⟨W0, hW0⟩ : ∃ W0, W0 = w.alloc (.cells zrow 43) := ⟨_, rfl⟩
  unfold zrow at hW0
  rw [← hW0]
  have HB0 : Hid (Below w.heap.size w W0) := by rw [hW0]; exact HW0.out _
  have HZ0 : Hid (W0.heap[w.heap.size]? = some (.cells zrow 43 (0, 0))) := by rw [hW0]; exact heap_alloc_new _ _
  have HK0 : Hid (Took w bp 66 A c ts s W0) := (took_refl HR.out).below HB0.out
  clear hW0
  refine (HT0.out _ HK0.out.1).mono ?_
  rintro e w1 ⟨rfl, hk⟩
  have HY2 := Lib.hid (hk.row HZ0.out (by omega))
  have HK3 := Lib.hid (HK0.out.trans hk)
  clear HZ0 HK0
  clear hk
  go_wp2_with fail
  refine (HT1.out _ HK3.out.1).mono ?_
  rintro e w4 ⟨rfl, hk⟩
  have HY5 := Lib.hid (hk.row HY2.out (by omega))
  have HK6 := Lib.hid (HK3.out.trans hk)
  clear HY2 HK3
  clear hk
  go_wp2_with fail
  refine (HT2.out _ HK6.out.1).mono ?_
  rintro e w7 ⟨rfl, hk⟩
  have HY8 := Lib.hid (hk.row HY5.out (by omega))
  have HK9 := Lib.hid (HK6.out.trans hk)
  clear HY5 HK6
  clear hk
  go_wp2_with fail
  refine (HT3.out _ HK9.out.1).mono ?_
  rintro e w10 ⟨rfl, hk⟩
  have HY11 := Lib.hid (hk.row HY8.out (by omega))
  have HK12 := Lib.hid (HK9.out.trans hk)
  clear HY8 HK9
  clear hk
  go_wp2_with fail
  have hzz13 := (Array.getElem?_eq_some_iff.1 HY11.out).1
  refine (HE1.out _ HK12.out.1).mono ?_
  rintro e w13 ⟨Ax, cx, rfl, hat, hk⟩
  have HY14 := Lib.hid (hk.row HY11.out (by omega))
  have HK15 := Lib.hid (HK12.out.trans hk)
  clear HY11 HK12
  have HX16 := Lib.hid (hat.base (B' := fun b => w.heap.size < b) (fun b hb hl => Nat.lt_of_lt_of_le hzz13 hb))
  clear hat hk
  unfold exAgg
  dsimp only
  go_wp2_with fail
  obtain ⟨W17, hW⟩ : ∃ W, W = w13.alloc (.cells #[.int .i64 x.kind, .int .i32 x.n, .string ⟨x.name.toArray⟩, .slice Ax x.sub.length cx] 43) := ⟨_, rfl⟩
  rw [← hW]
  have hbx : Below w13.heap.size w13 W17 := by rw [hW]; exact (Below.refl _ _).alloc (Nat.le_refl _) _
  have HN17 : Hid (W17.heap[w13.heap.size]? = some (.cells #[.int .i64 x.kind, .int .i32 x.n, .string ⟨x.name.toArray⟩, .slice Ax x.sub.length cx] 43 (0, 0))) := by rw [hW]; exact heap_alloc_new _ _
  have hlo17 : w.heap.size < w13.heap.size := (Array.getElem?_eq_some_iff.1 HY14.out).1
  clear hW
  have HY18 := Lib.hid ((hbx.block _ (Array.getElem?_eq_some_iff.1 HY14.out).1).trans HY14.out)
  have HX19 := Lib.hid (HX16.out.below hbx (Nat.le_refl _))
  have HK20 := Lib.hid (HK15.out.below hbx)
  clear HY14 HX16 HK15
  clear hbx
  refine (HN1.out _ HK20.out.1).mono ?_
  rintro e w21 ⟨rfl, hk⟩
  have HY22 := Lib.hid (hk.row HY18.out (by omega))
  have HY23 := Lib.hid (hk.row HN17.out (by omega))
  have HX24 := Lib.hid (HX19.out.took hk (by omega))
  have HK25 := Lib.hid (HK20.out.trans hk)
  clear HY18 HN17 HX19 HK20
  clear hk
  go_wp2_with fail
  have hzz26 := (Array.getElem?_eq_some_iff.1 HY22.out).1
  have hzHY23_26 := (Array.getElem?_eq_some_iff.1 HY23.out).1
  refine (HE2.out _ HK25.out.1).mono ?_
  rintro e w26 ⟨Ay, cy, rfl, hat, hk⟩
  have HY27 := Lib.hid (hk.row HY22.out (by omega))
  have HY28 := Lib.hid (hk.row HY23.out (by omega))
  have HX29 := Lib.hid (HX24.out.took hk (by omega))
  have HK30 := Lib.hid (HK25.out.trans hk)
  clear HY22 HY23 HX24 HK25
  have HX31 := Lib.hid (hat.base (B' := fun b => w.heap.size < b) (fun b hb hl => Nat.lt_of_lt_of_le hzz26 hb))
  clear hat hk
  unfold exAgg
  dsimp only
  go_wp2_with fail
  obtain ⟨W32, hW⟩ : ∃ W, W = w26.alloc (.cells #[.int .i64 y.kind, .int .i32 y.n, .string ⟨y.name.toArray⟩, .slice Ay y.sub.length cy] 43) := ⟨_, rfl⟩
  rw [← hW]
  have hbx : Below w26.heap.size w26 W32 := by rw [hW]; exact (Below.refl _ _).alloc (Nat.le_refl _) _
  have HN32 : Hid (W32.heap[w26.heap.size]? = some (.cells #[.int .i64 y.kind, .int .i32 y.n, .string ⟨y.name.toArray⟩, .slice Ay y.sub.length cy] 43 (0, 0))) := by rw [hW]; exact heap_alloc_new _ _
  have hlo32 : w.heap.size < w26.heap.size := (Array.getElem?_eq_some_iff.1 HY27.out).1
  clear hW
  have HY33 := Lib.hid ((hbx.block _ (Array.getElem?_eq_some_iff.1 HY27.out).1).trans HY27.out)
  have HY34 := Lib.hid ((hbx.block _ (Array.getElem?_eq_some_iff.1 HY28.out).1).trans HY28.out)
  have HX35 := Lib.hid (HX29.out.below hbx (Nat.le_refl _))
  have HX36 := Lib.hid (HX31.out.below hbx (Nat.le_refl _))
  have HK37 := Lib.hid (HK30.out.below hbx)
  clear HY27 HY28 HX29 HX31 HK30
  clear hbx
  refine (HN2.out _ HK37.out.1).mono ?_
  rintro e w38 ⟨rfl, hk⟩
  have HY39 := Lib.hid (hk.row HY33.out (by omega))
  have HY40 := Lib.hid (hk.row HY34.out (by omega))
  have HY41 := Lib.hid (hk.row HN32.out (by omega))
  have HX42 := Lib.hid (HX35.out.took hk (by omega))
  have HX43 := Lib.hid (HX36.out.took hk (by omega))
  have HK44 := Lib.hid (HK37.out.trans hk)
  clear HY33 HY34 HN32 HX35 HX36 HK37
  clear hk
  go_wp2_with fail
  have hzz45 := (Array.getElem?_eq_some_iff.1 HY39.out).1
  have hzHY40_45 := (Array.getElem?_eq_some_iff.1 HY40.out).1
  have hzHY41_45 := (Array.getElem?_eq_some_iff.1 HY41.out).1
  refine (HE3.out _ HK44.out.1).mono ?_
  rintro e w45 ⟨Az, cz, rfl, hat, hk⟩
  have HY46 := Lib.hid (hk.row HY39.out (by omega))
  have HY47 := Lib.hid (hk.row HY40.out (by omega))
  have HY48 := Lib.hid (hk.row HY41.out (by omega))
  have HX49 := Lib.hid (HX42.out.took hk (by omega))
  have HX50 := Lib.hid (HX43.out.took hk (by omega))
  have HK51 := Lib.hid (HK44.out.trans hk)
  clear HY39 HY40 HY41 HX42 HX43 HK44
  have HX52 := Lib.hid (hat.base (B' := fun b => w.heap.size < b) (fun b hb hl => Nat.lt_of_lt_of_le hzz45 hb))
  clear hat hk
  unfold exAgg
  dsimp only
  go_upto_region 15 with (fail)
  obtain ⟨W53, hW⟩ : ∃ W, W = w45.alloc (.cells #[.int .i64 z.kind, .int .i32 z.n, .string ⟨z.name.toArray⟩, .slice Az z.sub.length cz] 43) := ⟨_, rfl⟩
  rw [← hW]
  have hbx : Below w45.heap.size w45 W53 := by rw [hW]; exact (Below.refl _ _).alloc (Nat.le_refl _) _
  have HN53 : Hid (W53.heap[w45.heap.size]? = some (.cells #[.int .i64 z.kind, .int .i32 z.n, .string ⟨z.name.toArray⟩, .slice Az z.sub.length cz] 43 (0, 0))) := by rw [hW]; exact heap_alloc_new _ _
  have hlo53 : w.heap.size < w45.heap.size := (Array.getElem?_eq_some_iff.1 HY46.out).1
  clear hW
  have HY54 := Lib.hid ((hbx.block _ (Array.getElem?_eq_some_iff.1 HY46.out).1).trans HY46.out)
  have HY55 := Lib.hid ((hbx.block _ (Array.getElem?_eq_some_iff.1 HY47.out).1).trans HY47.out)
  have HY56 := Lib.hid ((hbx.block _ (Array.getElem?_eq_some_iff.1 HY48.out).1).trans HY48.out)
  have HX57 := Lib.hid (HX49.out.below hbx (Nat.le_refl _))
  have HX58 := Lib.hid (HX50.out.below hbx (Nat.le_refl _))
  have HX59 := Lib.hid (HX52.out.below hbx (Nat.le_refl _))
  have HK60 := Lib.hid (HK51.out.below hbx)
  clear HY46 HY47 HY48 HX49 HX50 HX52 HK51
  clear hbx
  obtain ⟨k0, k1, k2, k3, k4, k5, k6, k7⟩ := row4 HY54.out
  obtain ⟨m0, m1, m2, m3, m4, m5, m6, m7⟩ := row4 HY55.out
  obtain ⟨q0, q1, q2, q3, q4, q5, q6, q7⟩ := row4 HY56.out
  obtain ⟨j0, j1, j2, j3, j4, j5, j6, j7⟩ := row4 HN53.out
  have hzz9 := (Array.getElem?_eq_some_iff.1 HY54.out).1
  go_wp2_with fail
  refine ret_row 2 rfl rfl rfl (v_res HY54.out _ _ _ _ _) Try.underlying43 infoExS ⟨some ⟨W53.heap.size, 0, none⟩, 3, rfl, ?_, rv_took HK60.out HR.out _ _ _ _ _⟩
  dsimp only
  rw [at_eq]
  exact atL3 (v_row _ _ _ _ _) (Nat.le_of_lt hzz9) (v_at _ _ _ _ _ HX57.out) (v_at _ _ _ _ _ HX58.out) (v_at _ _ _ _ _ HX59.out)
set_option maxRecDepth 100000 in
set_option maxHeartbeats 16000000 in
theorem ratom_merge (bp : Nat) (A : Option Addr) (c : Nat) (ts : List Lx.Tok) (s : St) (IH : ∀ (k : Tr.Call) (s' : St), (k = .expr ∨ k = .factor) → fuel ts k s' < fuel ts .atom s → rSaid bp A c ts k s')
    (h0 : isKind ts s 2 = false) (h1 : sees ts s wTrue = false) (h2 : sees ts s wFalse = false) (h3 : sees ts s [40] = false) (h4 : sees ts s wIf = false) (h5 : sees ts s wMerge = true) : rSaid bp A c ts .atom s := by
  intro w h
  have HR := Lib.hid h
  have hbw := h.lt
  have hlen := h.len
  have hle := h.le
  obtain ⟨r, hr⟩ : ∃ r, r = P ts .atom s := ⟨_, rfl⟩
  rw [← hr]
  rw [P_atom] at hr
  have HTK := Lib.hid (fun W s m h => rtake_any bp A c ts s m W h)
  have HND := Lib.hid (fun W s m h => rneed_any bp A c ts s m W h)
  have HIH := Lib.hid IH
  clear h IH
  unfold rfnOf rargsOf
  dsimp only
  have HW0 : Hid (∀ V, Below w.heap.size w (w.alloc V)) := fun V => (Below.refl _ _).alloc (Nat.le_refl _) V

  rw [if_neg (by rw [h0]; decide)] at hr
  rw [if_neg (by rw [h1]; decide)] at hr
  rw [if_neg (by rw [h2]; decide)] at hr
  rw [if_neg (by rw [h3]; decide)] at hr
  rw [if_neg (by rw [h4]; decide)] at hr
  rw [if_pos h5] at hr
  have HL := Lib.hid (sees_lt h5)
  have hadv : s.at_ + 1 ≤ s.adv.at_ := Nat.le_refl _
  have HT0 := Lib.hid (fun W h => HTK.out W s wTrue h)
  rw [h1, if_neg (by decide)] at HT0
  unfold wTrue at HT0
  have HT1 := Lib.hid (fun W h => HTK.out W s wFalse h)
  rw [h2, if_neg (by decide)] at HT1
  unfold wFalse at HT1
  have HT2 := Lib.hid (fun W h => HTK.out W s [40] h)
  rw [h3, if_neg (by decide)] at HT2
  have HT3 := Lib.hid (fun W h => HTK.out W s wIf h)
  rw [h4, if_neg (by decide)] at HT3
  unfold wIf at HT3
  have HT4 := Lib.hid (fun W h => HTK.out W s wMerge h)
  rw [h5, if_pos rfl] at HT4
  unfold wMerge at HT4
  clear h0 h1 h2 h3 h4 h5
  have HNA := Lib.hid (token_at (ts := ts) s.adv 1)
  have HC := Lib.hid (fun W h => rkind_any bp A c ts s.adv 1 W h)
  unfold Tr.name at hr
  unfold tokAgg at HC
  generalize hnm : token ts s.adv 1 = tk at *
  obtain ⟨⟨kd, nm, nn, pl⟩, s1⟩ := tk
  clear hnm
  dsimp only at *
  have hnn := HNA.out
  have HE10 := Lib.hid (HIH.out .factor s1 (.inr rfl) (by have := HL.out.2; simp only [fuel, rank]; omega))
  have hpaHE1 := P_at (ts := ts) .factor s1
  generalize hq : P ts .factor s1 = q at *
  have HE1 : Hid (∀ w, RowAt w bp 66 A c ts s1 → Calls Try.prog 107 #[.pointer (some ⟨bp, 0, none⟩)] w (rGives w bp A c ts q)) := by unfold RowKit.Hid; rw [← hq]; exact HE10.out
  clear hq HE10
  obtain ⟨x, s2⟩ := q
  dsimp only at *
  have HE20 := Lib.hid (HIH.out .factor s2 (.inr rfl) (by have := HL.out.2; simp only [fuel, rank]; omega))
  have hpaHE2 := P_at (ts := ts) .factor s2
  generalize hq : P ts .factor s2 = q at *
  have HE2 : Hid (∀ w, RowAt w bp 66 A c ts s2 → Calls Try.prog 107 #[.pointer (some ⟨bp, 0, none⟩)] w (rGives w bp A c ts q)) := by unfold RowKit.Hid; rw [← hq]; exact HE20.out
  clear hq HE20
  obtain ⟨y, s3⟩ := q
  dsimp only at *
  subst hr
  go_enter Try.func117, Try.ntmps117
  go_wp2_with fail
  obtain ⟨W0, hW0⟩ : ∃ W0, W0 = w.alloc (.cells zrow 43) := ⟨_, rfl⟩
  unfold zrow at hW0
  rw [← hW0]
  have HB0 : Hid (Below w.heap.size w W0) := by rw [hW0]; exact HW0.out _
  have HZ0 : Hid (W0.heap[w.heap.size]? = some (.cells zrow 43 (0, 0))) := by rw [hW0]; exact heap_alloc_new _ _
  have HK0 : Hid (Took w bp 66 A c ts s W0) := (took_refl HR.out).below HB0.out
  clear hW0
  refine (HT0.out _ HK0.out.1).mono ?_
  rintro e w1 ⟨rfl, hk⟩
  have HY2 := Lib.hid (hk.row HZ0.out (by omega))
  have HK3 := Lib.hid (HK0.out.trans hk)
  clear HZ0 HK0
  clear hk
  go_wp2_with fail
  refine (HT1.out _ HK3.out.1).mono ?_
  rintro e w4 ⟨rfl, hk⟩
  have HY5 := Lib.hid (hk.row HY2.out (by omega))
  have HK6 := Lib.hid (HK3.out.trans hk)
  clear HY2 HK3
  clear hk
  go_wp2_with fail
  refine (HT2.out _ HK6.out.1).mono ?_
  rintro e w7 ⟨rfl, hk⟩
  have HY8 := Lib.hid (hk.row HY5.out (by omega))
  have HK9 := Lib.hid (HK6.out.trans hk)
  clear HY5 HK6
  clear hk
  go_wp2_with fail
  refine (HT3.out _ HK9.out.1).mono ?_
  rintro e w10 ⟨rfl, hk⟩
  have HY11 := Lib.hid (hk.row HY8.out (by omega))
  have HK12 := Lib.hid (HK9.out.trans hk)
  clear HY8 HK9
  clear hk
  go_wp2_with fail
  refine (HT4.out _ HK12.out.1).mono ?_
  rintro e w13 ⟨rfl, hk⟩
  have HY14 := Lib.hid (hk.row HY11.out (by omega))
  have HK15 := Lib.hid (HK12.out.trans hk)
  clear HY11 HK12
  clear hk
  go_wp2_with fail
  refine (HC.out _ HK15.out.1).mono ?_
  rintro e w16 ⟨rfl, hk⟩
  have HY17 := Lib.hid (hk.row HY14.out (by omega))
  have HK18 := Lib.hid (HK15.out.trans hk)
  clear HY14 HK15
  clear hk
  go_wp2_with fail
  obtain ⟨W19, hW⟩ : ∃ W, W = w16.alloc (.cells #[.int .i64 kd, .string ⟨nm.toArray⟩, .int .i32 nn, .int .i64 pl] 40) := ⟨_, rfl⟩
  rw [← hW]
  have hbx : Below w16.heap.size w16 W19 := by rw [hW]; exact (Below.refl _ _).alloc (Nat.le_refl _) _
  have HN19 : Hid (W19.heap[w16.heap.size]? = some (.cells #[.int .i64 kd, .string ⟨nm.toArray⟩, .int .i32 nn, .int .i64 pl] 40 (0, 0))) := by rw [hW]; exact heap_alloc_new _ _
  have hlo19 : w.heap.size < w16.heap.size := (Array.getElem?_eq_some_iff.1 HY17.out).1
  clear hW
  have HY20 := Lib.hid ((hbx.block _ (Array.getElem?_eq_some_iff.1 HY17.out).1).trans HY17.out)
  have HK21 := Lib.hid (HK18.out.below hbx)
  clear HY17 HK18
  clear hbx
  have hzz22 := (Array.getElem?_eq_some_iff.1 HY20.out).1
  have hzHN19_22 := (Array.getElem?_eq_some_iff.1 HN19.out).1
  refine (HE1.out _ HK21.out.1).mono ?_
  rintro e w22 ⟨Ax, cx, rfl, hat, hk⟩
  have HY23 := Lib.hid (hk.row HY20.out (by omega))
  have HY24 := Lib.hid (hk.row HN19.out (by omega))
  have HK25 := Lib.hid (HK21.out.trans hk)
  clear HY20 HN19 HK21
  have HX26 := Lib.hid (hat.base (B' := fun b => w.heap.size < b) (fun b hb hl => Nat.lt_of_lt_of_le hzz22 hb))
  clear hat hk
  unfold exAgg
  dsimp only
  go_wp2_with fail
  obtain ⟨W27, hW⟩ : ∃ W, W = w22.alloc (.cells #[.int .i64 x.kind, .int .i32 x.n, .string ⟨x.name.toArray⟩, .slice Ax x.sub.length cx] 43) := ⟨_, rfl⟩
  rw [← hW]
  have hbx : Below w22.heap.size w22 W27 := by rw [hW]; exact (Below.refl _ _).alloc (Nat.le_refl _) _
  have HN27 : Hid (W27.heap[w22.heap.size]? = some (.cells #[.int .i64 x.kind, .int .i32 x.n, .string ⟨x.name.toArray⟩, .slice Ax x.sub.length cx] 43 (0, 0))) := by rw [hW]; exact heap_alloc_new _ _
  have hlo27 : w.heap.size < w22.heap.size := (Array.getElem?_eq_some_iff.1 HY23.out).1
  clear hW
  have HY28 := Lib.hid ((hbx.block _ (Array.getElem?_eq_some_iff.1 HY23.out).1).trans HY23.out)
  have HY29 := Lib.hid ((hbx.block _ (Array.getElem?_eq_some_iff.1 HY24.out).1).trans HY24.out)
  have HX30 := Lib.hid (HX26.out.below hbx (Nat.le_refl _))
  have HK31 := Lib.hid (HK25.out.below hbx)
  clear HY23 HY24 HX26 HK25
  clear hbx
  have hzz32 := (Array.getElem?_eq_some_iff.1 HY28.out).1
  have hzHY29_32 := (Array.getElem?_eq_some_iff.1 HY29.out).1
  have hzHN27_32 := (Array.getElem?_eq_some_iff.1 HN27.out).1
  refine (HE2.out _ HK31.out.1).mono ?_
  rintro e w32 ⟨Ay, cy, rfl, hat, hk⟩
  have HY33 := Lib.hid (hk.row HY28.out (by omega))
  have HY34 := Lib.hid (hk.row HY29.out (by omega))
  have HY35 := Lib.hid (hk.row HN27.out (by omega))
  have HX36 := Lib.hid (HX30.out.took hk (by omega))
  have HK37 := Lib.hid (HK31.out.trans hk)
  clear HY28 HY29 HN27 HX30 HK31
  have HX38 := Lib.hid (hat.base (B' := fun b => w.heap.size < b) (fun b hb hl => Nat.lt_of_lt_of_le hzz32 hb))
  clear hat hk
  unfold exAgg
  dsimp only
  go_upto_region 20 with (fail)
  obtain ⟨W39, hW⟩ : ∃ W, W = w32.alloc (.cells #[.int .i64 y.kind, .int .i32 y.n, .string ⟨y.name.toArray⟩, .slice Ay y.sub.length cy] 43) := ⟨_, rfl⟩
  rw [← hW]
  have hbx : Below w32.heap.size w32 W39 := by rw [hW]; exact (Below.refl _ _).alloc (Nat.le_refl _) _
  have HN39 : Hid (W39.heap[w32.heap.size]? = some (.cells #[.int .i64 y.kind, .int .i32 y.n, .string ⟨y.name.toArray⟩, .slice Ay y.sub.length cy] 43 (0, 0))) := by rw [hW]; exact heap_alloc_new _ _
  have hlo39 : w.heap.size < w32.heap.size := (Array.getElem?_eq_some_iff.1 HY33.out).1
  clear hW
  have HY40 := Lib.hid ((hbx.block _ (Array.getElem?_eq_some_iff.1 HY33.out).1).trans HY33.out)
  have HY41 := Lib.hid ((hbx.block _ (Array.getElem?_eq_some_iff.1 HY34.out).1).trans HY34.out)
  have HY42 := Lib.hid ((hbx.block _ (Array.getElem?_eq_some_iff.1 HY35.out).1).trans HY35.out)
  have HX43 := Lib.hid (HX36.out.below hbx (Nat.le_refl _))
  have HX44 := Lib.hid (HX38.out.below hbx (Nat.le_refl _))
  have HK45 := Lib.hid (HK37.out.below hbx)
  clear HY33 HY34 HY35 HX36 HX38 HK37
  clear hbx
  obtain ⟨k0, k1, k2, k3, k4, k5, k6, k7⟩ := row4 HY40.out
  obtain ⟨m0, m1, m2, m3, m4, m5, m6, m7⟩ := row4 HY41.out
  obtain ⟨q0, q1, q2, q3, q4, q5, q6, q7⟩ := row4 HY42.out
  obtain ⟨j0, j1, j2, j3, j4, j5, j6, j7⟩ := row4 HN39.out
  have hzz9 := (Array.getElem?_eq_some_iff.1 HY40.out).1
  go_wp2_with fail
  refine ret_row 2 rfl rfl rfl (v_res HY40.out _ _ _ _ _) Try.underlying43 infoExS ⟨some ⟨W39.heap.size, 0, none⟩, 2, rfl, ?_, rv_took HK45.out HR.out _ _ _ _ _⟩
  dsimp only
  rw [at_eq]
  exact atL2 (v_row _ _ _ _ _) (Nat.le_of_lt hzz9) (v_at _ _ _ _ _ HX43.out) (v_at _ _ _ _ _ HX44.out)
set_option maxRecDepth 100000 in
set_option maxHeartbeats 16000000 in
theorem ratom_num (bp : Nat) (A : Option Addr) (c : Nat) (ts : List Lx.Tok) (s : St) (IH : ∀ (k : Tr.Call) (s' : St), (k = .expr ∨ k = .factor) → fuel ts k s' < fuel ts .atom s → rSaid bp A c ts k s')
    (h0 : isKind ts s 2 = true) : rSaid bp A c ts .atom s := by
  intro w h
  have HR := Lib.hid h
  have hbw := h.lt
  have hlen := h.len
  have hle := h.le
  obtain ⟨r, hr⟩ : ∃ r, r = P ts .atom s := ⟨_, rfl⟩
  rw [← hr]
  rw [P_atom] at hr
  have HTK := Lib.hid (fun W s m h => rtake_any bp A c ts s m W h)
  have HND := Lib.hid (fun W s m h => rneed_any bp A c ts s m W h)
  have HIH := Lib.hid IH
  clear h IH
  unfold rfnOf rargsOf
  dsimp only
  have HW0 : Hid (∀ V, Below w.heap.size w (w.alloc V)) := fun V => (Below.refl _ _).alloc (Nat.le_refl _) V

  rw [if_pos h0] at hr
  have h1 := sees_num h0 wTrue
  have h2 := sees_num h0 wFalse
  have h3 := sees_num h0 [40]
  have h4 := sees_num h0 wIf
  have h5 := sees_num h0 wMerge
  have HT0 := Lib.hid (fun W h => HTK.out W s wTrue h)
  rw [h1, if_neg (by decide)] at HT0
  unfold wTrue at HT0
  have HT1 := Lib.hid (fun W h => HTK.out W s wFalse h)
  rw [h2, if_neg (by decide)] at HT1
  unfold wFalse at HT1
  have HT2 := Lib.hid (fun W h => HTK.out W s [40] h)
  rw [h3, if_neg (by decide)] at HT2
  have HT3 := Lib.hid (fun W h => HTK.out W s wIf h)
  rw [h4, if_neg (by decide)] at HT3
  unfold wIf at HT3
  have HT4 := Lib.hid (fun W h => HTK.out W s wMerge h)
  rw [h5, if_neg (by decide)] at HT4
  unfold wMerge at HT4
  have hik := h0
  rw [isKind_cur, Bool.and_eq_true] at hik
  have hlt := (isKind_lt h0).2
  have hbb := (isKind_lt h0).1
  have HC := Lib.hid (fun W h => rkind_any bp A c ts s 2 W h)
  have htk : token ts s 2 = (Tr.tok ts s, s.adv) := by unfold token; rw [if_pos h0]
  have hkd : (ts[s.at_]'hlt).kind == 2 := by have e := hik.2; rw [cur_yes hbb hlt] at e; exact e
  have htt : Tr.tok ts s = ts[s.at_]'hlt := by unfold Tr.tok; simp [hlt]
  rw [htk] at HC
  unfold tokAgg at HC
  dsimp only at HC
  rw [htt] at HC hr
  clear htk htt hik h0 h1 h2 h3 h4 h5
  obtain ⟨tk, htq⟩ : ∃ t, t = ts[s.at_]'hlt := ⟨_, rfl⟩
  rw [← htq] at HC hr hkd
  obtain ⟨kd, tx, nn, pl⟩ := tk
  dsimp only at HC hr hkd
  obtain ⟨s1, hs1⟩ : ∃ s1, s1 = s.adv := ⟨_, rfl⟩
  rw [← hs1] at HC hr
  clear hs1
  subst hr
  go_enter Try.func117, Try.ntmps117
  go_wp2_with fail
  obtain ⟨W0, hW0⟩ : ∃ W0, W0 = w.alloc (.cells zrow 43) := ⟨_, rfl⟩
  unfold zrow at hW0
  rw [← hW0]
  have HB0 : Hid (Below w.heap.size w W0) := by rw [hW0]; exact HW0.out _
  have HZ0 : Hid (W0.heap[w.heap.size]? = some (.cells zrow 43 (0, 0))) := by rw [hW0]; exact heap_alloc_new _ _
  have HK0 : Hid (Took w bp 66 A c ts s W0) := (took_refl HR.out).below HB0.out
  clear hW0
  refine (HT0.out _ HK0.out.1).mono ?_
  rintro e w1 ⟨rfl, hk⟩
  have HY2 := Lib.hid (hk.row HZ0.out (by omega))
  have HK3 := Lib.hid (HK0.out.trans hk)
  clear HZ0 HK0
  clear hk
  go_wp2_with fail
  refine (HT1.out _ HK3.out.1).mono ?_
  rintro e w4 ⟨rfl, hk⟩
  have HY5 := Lib.hid (hk.row HY2.out (by omega))
  have HK6 := Lib.hid (HK3.out.trans hk)
  clear HY2 HK3
  clear hk
  go_wp2_with fail
  refine (HT2.out _ HK6.out.1).mono ?_
  rintro e w7 ⟨rfl, hk⟩
  have HY8 := Lib.hid (hk.row HY5.out (by omega))
  have HK9 := Lib.hid (HK6.out.trans hk)
  clear HY5 HK6
  clear hk
  go_wp2_with fail
  refine (HT3.out _ HK9.out.1).mono ?_
  rintro e w10 ⟨rfl, hk⟩
  have HY11 := Lib.hid (hk.row HY8.out (by omega))
  have HK12 := Lib.hid (HK9.out.trans hk)
  clear HY8 HK9
  clear hk
  go_wp2_with fail
  refine (HT4.out _ HK12.out.1).mono ?_
  rintro e w13 ⟨rfl, hk⟩
  have HY14 := Lib.hid (hk.row HY11.out (by omega))
  have HK15 := Lib.hid (HK12.out.trans hk)
  clear HY11 HK12
  clear hk
  have HR9 := Lib.hid HK15.out.1
  obtain ⟨c0, c1, c2, g1, g2⟩ := HR9.out.cells
  rw [hbb] at c2
  obtain ⟨b, off, rfl, t0, t1, t2, t3⟩ := HR9.out.toks s.at_ hlt
  rw [← htq] at t0 t1 t2 t3
  dsimp only at t0 t1 t2 t3
  clear htq t1 t2 t3
  have hd : decide ((s.at_ : Int) < (ts.length : Int)) = true := decide_eq_true (by omega)
  have hr0 : (0 : Int) ≤ s.at_ := by omega
  have hr1 : (s.at_ : Int) < (ts.length : Int) := by omega
  go_wp2_with fail
  go_quiet (fail)
  obtain ⟨Wq, hWq⟩ : ∃ W, W = w13.drewN nq := ⟨_, rfl⟩
  rw [← hWq]
  have hbx : Below w13.heap.size w13 Wq := by rw [hWq]; exact below_drewN (Below.refl _ _) _
  clear hWq
  have HY16 := Lib.hid ((hbx.block _ (Array.getElem?_eq_some_iff.1 HY14.out).1).trans HY14.out)
  have HK17 := Lib.hid (HK15.out.below hbx)
  clear HY14 HK15
  clear hbx
  have hfl := fun W => field_num W kd nn pl tx
  go_wp2_with fail
  refine (HC.out _ HK17.out.1).mono ?_
  rintro e w18 ⟨rfl, hk⟩
  have HY19 := Lib.hid (hk.row HY16.out (by omega))
  have HK20 := Lib.hid (HK17.out.trans hk)
  clear HY16 HK17
  clear hk
  obtain ⟨k0, k1, k2, k3, k4, k5, k6, k7⟩ := row4 HY19.out
  go_wp2_with fail
  exact ret_row 2 rfl rfl rfl (setrow4 HY19.out _ _ _ _) Try.underlying43 infoExS (rgives_end (r := (.mk 1 nn [] [], s1)) HR.out HK20.out none 0 (by rw [at_eq]; exact atL_nil _ _ _) _ _ _ _)
set_option maxRecDepth 100000 in
set_option maxHeartbeats 16000000 in
theorem ratom_nameb (bp : Nat) (A : Option Addr) (c : Nat) (ts : List Lx.Tok) (s : St) (IH : ∀ (k : Tr.Call) (s' : St), (k = .expr ∨ k = .factor) → fuel ts k s' < fuel ts .atom s → rSaid bp A c ts k s')
    (h0 : isKind ts s 2 = false) (h1 : sees ts s wTrue = false) (h2 : sees ts s wFalse = false) (h3 : sees ts s [40] = false) (h4 : sees ts s wIf = false) (h5 : sees ts s wMerge = false) (hb : s.bad = true) : rSaid bp A c ts .atom s := by
  intro w h
  have HR := Lib.hid h
  have hbw := h.lt
  have hlen := h.len
  have hle := h.le
  obtain ⟨r, hr⟩ : ∃ r, r = P ts .atom s := ⟨_, rfl⟩
  rw [← hr]
  rw [P_atom] at hr
  have HTK := Lib.hid (fun W s m h => rtake_any bp A c ts s m W h)
  have HND := Lib.hid (fun W s m h => rneed_any bp A c ts s m W h)
  have HIH := Lib.hid IH
  clear h IH
  unfold rfnOf rargsOf
  dsimp only
  have HW0 : Hid (∀ V, Below w.heap.size w (w.alloc V)) := fun V => (Below.refl _ _).alloc (Nat.le_refl _) V

  rw [if_neg (by rw [h0]; decide)] at hr
  rw [if_neg (by rw [h1]; decide)] at hr
  rw [if_neg (by rw [h2]; decide)] at hr
  rw [if_neg (by rw [h3]; decide)] at hr
  rw [if_neg (by rw [h4]; decide)] at hr
  rw [if_neg (by rw [h5]; decide)] at hr
  have HT0 := Lib.hid (fun W h => HTK.out W s wTrue h)
  rw [h1, if_neg (by decide)] at HT0
  unfold wTrue at HT0
  have HT1 := Lib.hid (fun W h => HTK.out W s wFalse h)
  rw [h2, if_neg (by decide)] at HT1
  unfold wFalse at HT1
  have HT2 := Lib.hid (fun W h => HTK.out W s [40] h)
  rw [h3, if_neg (by decide)] at HT2
  have HT3 := Lib.hid (fun W h => HTK.out W s wIf h)
  rw [h4, if_neg (by decide)] at HT3
  unfold wIf at HT3
  have HT4 := Lib.hid (fun W h => HTK.out W s wMerge h)
  rw [h5, if_neg (by decide)] at HT4
  unfold wMerge at HT4
  clear h0 h1 h2 h3 h4 h5
  have HC := Lib.hid (fun W h => rkind_any bp A c ts s 1 W h)
  unfold Tr.name at hr
  unfold tokAgg at HC
  generalize hnm : token ts s 1 = tk at *
  obtain ⟨⟨kd, tx, nn, pl⟩, s1⟩ := tk
  clear hnm
  dsimp only at *
  subst hr
  go_enter Try.func117, Try.ntmps117
  go_wp2_with fail
  obtain ⟨W0, hW0⟩ : ∃ W0, W0 = w.alloc (.cells zrow 43) := ⟨_, rfl⟩
  unfold zrow at hW0
  rw [← hW0]
  have HB0 : Hid (Below w.heap.size w W0) := by rw [hW0]; exact HW0.out _
  have HZ0 : Hid (W0.heap[w.heap.size]? = some (.cells zrow 43 (0, 0))) := by rw [hW0]; exact heap_alloc_new _ _
  have HK0 : Hid (Took w bp 66 A c ts s W0) := (took_refl HR.out).below HB0.out
  clear hW0
  refine (HT0.out _ HK0.out.1).mono ?_
  rintro e w1 ⟨rfl, hk⟩
  have HY2 := Lib.hid (hk.row HZ0.out (by omega))
  have HK3 := Lib.hid (HK0.out.trans hk)
  clear HZ0 HK0
  clear hk
  go_wp2_with fail
  refine (HT1.out _ HK3.out.1).mono ?_
  rintro e w4 ⟨rfl, hk⟩
  have HY5 := Lib.hid (hk.row HY2.out (by omega))
  have HK6 := Lib.hid (HK3.out.trans hk)
  clear HY2 HK3
  clear hk
  go_wp2_with fail
  refine (HT2.out _ HK6.out.1).mono ?_
  rintro e w7 ⟨rfl, hk⟩
  have HY8 := Lib.hid (hk.row HY5.out (by omega))
  have HK9 := Lib.hid (HK6.out.trans hk)
  clear HY5 HK6
  clear hk
  go_wp2_with fail
  refine (HT3.out _ HK9.out.1).mono ?_
  rintro e w10 ⟨rfl, hk⟩
  have HY11 := Lib.hid (hk.row HY8.out (by omega))
  have HK12 := Lib.hid (HK9.out.trans hk)
  clear HY8 HK9
  clear hk
  go_wp2_with fail
  refine (HT4.out _ HK12.out.1).mono ?_
  rintro e w13 ⟨rfl, hk⟩
  have HY14 := Lib.hid (hk.row HY11.out (by omega))
  have HK15 := Lib.hid (HK12.out.trans hk)
  clear HY11 HK12
  clear hk
  have HR9 := Lib.hid HK15.out.1
  obtain ⟨c0, c1, c2, g1, g2⟩ := HR9.out.cells
  rw [hb] at c2
  clear hb
  go_wp2_with fail
  go_quiet (fail)
  obtain ⟨Wq, hWq⟩ : ∃ W, W = w13.drewN nq := ⟨_, rfl⟩
  rw [← hWq]
  have hbx : Below w13.heap.size w13 Wq := by rw [hWq]; exact below_drewN (Below.refl _ _) _
  clear hWq
  have HY16 := Lib.hid ((hbx.block _ (Array.getElem?_eq_some_iff.1 HY14.out).1).trans HY14.out)
  have HK17 := Lib.hid (HK15.out.below hbx)
  clear HY14 HK15
  clear hbx
  have hfl := fun W => field_text W kd nn pl tx
  go_wp2_with fail
  refine (HC.out _ HK17.out.1).mono ?_
  rintro e w18 ⟨rfl, hk⟩
  have HY19 := Lib.hid (hk.row HY16.out (by omega))
  have HK20 := Lib.hid (HK17.out.trans hk)
  clear HY16 HK17
  clear hk
  obtain ⟨k0, k1, k2, k3, k4, k5, k6, k7⟩ := row4 HY19.out
  go_wp2_with fail
  exact ret_row 2 rfl rfl rfl (setrow4 HY19.out _ _ _ _) Try.underlying43 infoExS (rgives_end (r := (.mk 3 0 tx [], s1)) HR.out HK20.out none 0 (by rw [at_eq]; exact atL_nil _ _ _) _ _ _ _)
set_option maxRecDepth 100000 in
set_option maxHeartbeats 16000000 in
theorem ratom_namep (bp : Nat) (A : Option Addr) (c : Nat) (ts : List Lx.Tok) (s : St) (IH : ∀ (k : Tr.Call) (s' : St), (k = .expr ∨ k = .factor) → fuel ts k s' < fuel ts .atom s → rSaid bp A c ts k s')
    (h0 : isKind ts s 2 = false) (h1 : sees ts s wTrue = false) (h2 : sees ts s wFalse = false) (h3 : sees ts s [40] = false) (h4 : sees ts s wIf = false) (h5 : sees ts s wMerge = false) (hb : s.bad = false) (hp : ts.length ≤ s.at_) : rSaid bp A c ts .atom s := by
  intro w h
  have HR := Lib.hid h
  have hbw := h.lt
  have hlen := h.len
  have hle := h.le
  obtain ⟨r, hr⟩ : ∃ r, r = P ts .atom s := ⟨_, rfl⟩
  rw [← hr]
  rw [P_atom] at hr
  have HTK := Lib.hid (fun W s m h => rtake_any bp A c ts s m W h)
  have HND := Lib.hid (fun W s m h => rneed_any bp A c ts s m W h)
  have HIH := Lib.hid IH
  clear h IH
  unfold rfnOf rargsOf
  dsimp only
  have HW0 : Hid (∀ V, Below w.heap.size w (w.alloc V)) := fun V => (Below.refl _ _).alloc (Nat.le_refl _) V

  rw [if_neg (by rw [h0]; decide)] at hr
  rw [if_neg (by rw [h1]; decide)] at hr
  rw [if_neg (by rw [h2]; decide)] at hr
  rw [if_neg (by rw [h3]; decide)] at hr
  rw [if_neg (by rw [h4]; decide)] at hr
  rw [if_neg (by rw [h5]; decide)] at hr
  have HT0 := Lib.hid (fun W h => HTK.out W s wTrue h)
  rw [h1, if_neg (by decide)] at HT0
  unfold wTrue at HT0
  have HT1 := Lib.hid (fun W h => HTK.out W s wFalse h)
  rw [h2, if_neg (by decide)] at HT1
  unfold wFalse at HT1
  have HT2 := Lib.hid (fun W h => HTK.out W s [40] h)
  rw [h3, if_neg (by decide)] at HT2
  have HT3 := Lib.hid (fun W h => HTK.out W s wIf h)
  rw [h4, if_neg (by decide)] at HT3
  unfold wIf at HT3
  have HT4 := Lib.hid (fun W h => HTK.out W s wMerge h)
  rw [h5, if_neg (by decide)] at HT4
  unfold wMerge at HT4
  clear h0 h1 h2 h3 h4 h5
  have HC := Lib.hid (fun W h => rkind_any bp A c ts s 1 W h)
  unfold Tr.name at hr
  unfold tokAgg at HC
  generalize hnm : token ts s 1 = tk at *
  obtain ⟨⟨kd, tx, nn, pl⟩, s1⟩ := tk
  clear hnm
  dsimp only at *
  subst hr
  go_enter Try.func117, Try.ntmps117
  go_wp2_with fail
  obtain ⟨W0, hW0⟩ : ∃ W0, W0 = w.alloc (.cells zrow 43) := ⟨_, rfl⟩
  unfold zrow at hW0
  rw [← hW0]
  have HB0 : Hid (Below w.heap.size w W0) := by rw [hW0]; exact HW0.out _
  have HZ0 : Hid (W0.heap[w.heap.size]? = some (.cells zrow 43 (0, 0))) := by rw [hW0]; exact heap_alloc_new _ _
  have HK0 : Hid (Took w bp 66 A c ts s W0) := (took_refl HR.out).below HB0.out
  clear hW0
  refine (HT0.out _ HK0.out.1).mono ?_
  rintro e w1 ⟨rfl, hk⟩
  have HY2 := Lib.hid (hk.row HZ0.out (by omega))
  have HK3 := Lib.hid (HK0.out.trans hk)
  clear HZ0 HK0
  clear hk
  go_wp2_with fail
  refine (HT1.out _ HK3.out.1).mono ?_
  rintro e w4 ⟨rfl, hk⟩
  have HY5 := Lib.hid (hk.row HY2.out (by omega))
  have HK6 := Lib.hid (HK3.out.trans hk)
  clear HY2 HK3
  clear hk
  go_wp2_with fail
  refine (HT2.out _ HK6.out.1).mono ?_
  rintro e w7 ⟨rfl, hk⟩
  have HY8 := Lib.hid (hk.row HY5.out (by omega))
  have HK9 := Lib.hid (HK6.out.trans hk)
  clear HY5 HK6
  clear hk
  go_wp2_with fail
  refine (HT3.out _ HK9.out.1).mono ?_
  rintro e w10 ⟨rfl, hk⟩
  have HY11 := Lib.hid (hk.row HY8.out (by omega))
  have HK12 := Lib.hid (HK9.out.trans hk)
  clear HY8 HK9
  clear hk
  go_wp2_with fail
  refine (HT4.out _ HK12.out.1).mono ?_
  rintro e w13 ⟨rfl, hk⟩
  have HY14 := Lib.hid (hk.row HY11.out (by omega))
  have HK15 := Lib.hid (HK12.out.trans hk)
  clear HY11 HK12
  clear hk
  have HR9 := Lib.hid HK15.out.1
  obtain ⟨c0, c1, c2, g1, g2⟩ := HR9.out.cells
  rw [hb] at c2
  have hd : decide ((s.at_ : Int) < (ts.length : Int)) = false := decide_eq_false (by omega)
  have hnl : ¬ s.at_ < ts.length := by omega
  clear hb hp
  go_wp2_with fail
  go_quiet (fail)
  obtain ⟨Wq, hWq⟩ : ∃ W, W = w13.drewN nq := ⟨_, rfl⟩
  rw [← hWq]
  have hbx : Below w13.heap.size w13 Wq := by rw [hWq]; exact below_drewN (Below.refl _ _) _
  clear hWq
  have HY16 := Lib.hid ((hbx.block _ (Array.getElem?_eq_some_iff.1 HY14.out).1).trans HY14.out)
  have HK17 := Lib.hid (HK15.out.below hbx)
  clear HY14 HK15
  clear hbx
  have hfl := fun W => field_text W kd nn pl tx
  go_wp2_with fail
  refine (HC.out _ HK17.out.1).mono ?_
  rintro e w18 ⟨rfl, hk⟩
  have HY19 := Lib.hid (hk.row HY16.out (by omega))
  have HK20 := Lib.hid (HK17.out.trans hk)
  clear HY16 HK17
  clear hk
  obtain ⟨k0, k1, k2, k3, k4, k5, k6, k7⟩ := row4 HY19.out
  go_wp2_with fail
  exact ret_row 2 rfl rfl rfl (setrow4 HY19.out _ _ _ _) Try.underlying43 infoExS (rgives_end (r := (.mk 3 0 tx [], s1)) HR.out HK20.out none 0 (by rw [at_eq]; exact atL_nil _ _ _) _ _ _ _)
set_option maxRecDepth 100000 in
set_option maxHeartbeats 16000000 in
theorem ratom_namek (bp : Nat) (A : Option Addr) (c : Nat) (ts : List Lx.Tok) (s : St) (IH : ∀ (k : Tr.Call) (s' : St), (k = .expr ∨ k = .factor) → fuel ts k s' < fuel ts .atom s → rSaid bp A c ts k s')
    (h0 : isKind ts s 2 = false) (h1 : sees ts s wTrue = false) (h2 : sees ts s wFalse = false) (h3 : sees ts s [40] = false) (h4 : sees ts s wIf = false) (h5 : sees ts s wMerge = false) (hb : s.bad = false) (hlt : s.at_ < ts.length) : rSaid bp A c ts .atom s := by
  intro w h
  have HR := Lib.hid h
  have hbw := h.lt
  have hlen := h.len
  have hle := h.le
  obtain ⟨r, hr⟩ : ∃ r, r = P ts .atom s := ⟨_, rfl⟩
  rw [← hr]
  rw [P_atom] at hr
  have HTK := Lib.hid (fun W s m h => rtake_any bp A c ts s m W h)
  have HND := Lib.hid (fun W s m h => rneed_any bp A c ts s m W h)
  have HIH := Lib.hid IH
  clear h IH
  unfold rfnOf rargsOf
  dsimp only
  have HW0 : Hid (∀ V, Below w.heap.size w (w.alloc V)) := fun V => (Below.refl _ _).alloc (Nat.le_refl _) V

  rw [if_neg (by rw [h0]; decide)] at hr
  rw [if_neg (by rw [h1]; decide)] at hr
  rw [if_neg (by rw [h2]; decide)] at hr
  rw [if_neg (by rw [h3]; decide)] at hr
  rw [if_neg (by rw [h4]; decide)] at hr
  rw [if_neg (by rw [h5]; decide)] at hr
  have HT0 := Lib.hid (fun W h => HTK.out W s wTrue h)
  rw [h1, if_neg (by decide)] at HT0
  unfold wTrue at HT0
  have HT1 := Lib.hid (fun W h => HTK.out W s wFalse h)
  rw [h2, if_neg (by decide)] at HT1
  unfold wFalse at HT1
  have HT2 := Lib.hid (fun W h => HTK.out W s [40] h)
  rw [h3, if_neg (by decide)] at HT2
  have HT3 := Lib.hid (fun W h => HTK.out W s wIf h)
  rw [h4, if_neg (by decide)] at HT3
  unfold wIf at HT3
  have HT4 := Lib.hid (fun W h => HTK.out W s wMerge h)
  rw [h5, if_neg (by decide)] at HT4
  unfold wMerge at HT4
  have hkd : ((ts[s.at_]'hlt).kind == 2) = false := by have e := h0; rw [isKind_cur, has_yes hb hlt, cur_yes hb hlt, Bool.true_and] at e; exact e
  clear h0 h1 h2 h3 h4 h5
  have HC := Lib.hid (fun W h => rkind_any bp A c ts s 1 W h)
  unfold Tr.name at hr
  unfold tokAgg at HC
  generalize hnm : token ts s 1 = tk at *
  obtain ⟨⟨kd, tx, nn, pl⟩, s1⟩ := tk
  clear hnm
  dsimp only at *
  subst hr
  go_enter Try.func117, Try.ntmps117
  go_wp2_with fail
  obtain ⟨W0, hW0⟩ : ∃ W0, W0 = w.alloc (.cells zrow 43) := ⟨_, rfl⟩
  unfold zrow at hW0
  rw [← hW0]
  have HB0 : Hid (Below w.heap.size w W0) := by rw [hW0]; exact HW0.out _
  have HZ0 : Hid (W0.heap[w.heap.size]? = some (.cells zrow 43 (0, 0))) := by rw [hW0]; exact heap_alloc_new _ _
  have HK0 : Hid (Took w bp 66 A c ts s W0) := (took_refl HR.out).below HB0.out
  clear hW0
  refine (HT0.out _ HK0.out.1).mono ?_
  rintro e w1 ⟨rfl, hk⟩
  have HY2 := Lib.hid (hk.row HZ0.out (by omega))
  have HK3 := Lib.hid (HK0.out.trans hk)
  clear HZ0 HK0
  clear hk
  go_wp2_with fail
  refine (HT1.out _ HK3.out.1).mono ?_
  rintro e w4 ⟨rfl, hk⟩
  have HY5 := Lib.hid (hk.row HY2.out (by omega))
  have HK6 := Lib.hid (HK3.out.trans hk)
  clear HY2 HK3
  clear hk
  go_wp2_with fail
  refine (HT2.out _ HK6.out.1).mono ?_
  rintro e w7 ⟨rfl, hk⟩
  have HY8 := Lib.hid (hk.row HY5.out (by omega))
  have HK9 := Lib.hid (HK6.out.trans hk)
  clear HY5 HK6
  clear hk
  go_wp2_with fail
  refine (HT3.out _ HK9.out.1).mono ?_
  rintro e w10 ⟨rfl, hk⟩
  have HY11 := Lib.hid (hk.row HY8.out (by omega))
  have HK12 := Lib.hid (HK9.out.trans hk)
  clear HY8 HK9
  clear hk
  go_wp2_with fail
  refine (HT4.out _ HK12.out.1).mono ?_
  rintro e w13 ⟨rfl, hk⟩
  have HY14 := Lib.hid (hk.row HY11.out (by omega))
  have HK15 := Lib.hid (HK12.out.trans hk)
  clear HY11 HK12
  clear hk
  have HR9 := Lib.hid HK15.out.1
  obtain ⟨c0, c1, c2, g1, g2⟩ := HR9.out.cells
  rw [hb] at c2
  obtain ⟨b, off, rfl, t0, t1, t2, t3⟩ := HR9.out.toks s.at_ hlt
  generalize ts[s.at_]'hlt = tq at *
  obtain ⟨kq, tq, nq2, pq⟩ := tq
  dsimp only at t0 hkd
  clear t1 t2 t3
  have hd : decide ((s.at_ : Int) < (ts.length : Int)) = true := decide_eq_true (by omega)
  have hr0 : (0 : Int) ≤ s.at_ := by omega
  have hr1 : (s.at_ : Int) < (ts.length : Int) := by omega
  go_wp2_with fail
  go_quiet (fail)
  obtain ⟨Wq, hWq⟩ : ∃ W, W = w13.drewN nq := ⟨_, rfl⟩
  rw [← hWq]
  have hbx : Below w13.heap.size w13 Wq := by rw [hWq]; exact below_drewN (Below.refl _ _) _
  clear hWq
  have HY16 := Lib.hid ((hbx.block _ (Array.getElem?_eq_some_iff.1 HY14.out).1).trans HY14.out)
  have HK17 := Lib.hid (HK15.out.below hbx)
  clear HY14 HK15
  clear hbx
  have hfl := fun W => field_text W kd nn pl tx
  go_wp2_with fail
  refine (HC.out _ HK17.out.1).mono ?_
  rintro e w18 ⟨rfl, hk⟩
  have HY19 := Lib.hid (hk.row HY16.out (by omega))
  have HK20 := Lib.hid (HK17.out.trans hk)
  clear HY16 HK17
  clear hk
  obtain ⟨k0, k1, k2, k3, k4, k5, k6, k7⟩ := row4 HY19.out
  go_wp2_with fail
  exact ret_row 2 rfl rfl rfl (setrow4 HY19.out _ _ _ _) Try.underlying43 infoExS (rgives_end (r := (.mk 3 0 tx [], s1)) HR.out HK20.out none 0 (by rw [at_eq]; exact atL_nil _ _ _) _ _ _ _)
theorem ratom_of (bp : Nat) (A : Option Addr) (c : Nat) (ts : List Lx.Tok) (s : St) (IH : ∀ (k : Tr.Call) (s' : St), (k = .expr ∨ k = .factor) → fuel ts k s' < fuel ts .atom s → rSaid bp A c ts k s') : rSaid bp A c ts .atom s := by
  rcases h0 : isKind ts s 2 with _ | _
  rotate_left
  · exact ratom_num bp A c ts s IH h0
  rcases h1 : sees ts s wTrue with _ | _
  rotate_left
  · exact ratom_true bp A c ts s IH h0 h1
  rcases h2 : sees ts s wFalse with _ | _
  rotate_left
  · exact ratom_false bp A c ts s IH h0 h1 h2
  rcases h3 : sees ts s [40] with _ | _
  rotate_left
  · exact ratom_brackets bp A c ts s IH h0 h1 h2 h3
  rcases h4 : sees ts s wIf with _ | _
  rotate_left
  · exact ratom_if bp A c ts s IH h0 h1 h2 h3 h4
  rcases h5 : sees ts s wMerge with _ | _
  rotate_left
  · exact ratom_merge bp A c ts s IH h0 h1 h2 h3 h4 h5
  rcases hb : s.bad with _ | _
  rotate_left
  · exact ratom_nameb bp A c ts s IH h0 h1 h2 h3 h4 h5 hb
  by_cases hlt : s.at_ < ts.length
  · exact ratom_namek bp A c ts s IH h0 h1 h2 h3 h4 h5 hb hlt
  · exact ratom_namep bp A c ts s IH h0 h1 h2 h3 h4 h5 hb (by omega)
end Go.Proofs.Ytilkilffkjhhbaa
