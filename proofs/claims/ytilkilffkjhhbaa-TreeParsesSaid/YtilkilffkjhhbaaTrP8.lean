/-
  The rule atom.
-/
import Derived.Test.YtilkilffkjhhbaaTrPa
namespace Go.Proofs.Ytilkilffkjhhbaa
set_option maxRecDepth 20000
set_option linter.unusedVariables false
open Go.RowKit Tr Mem

theorem tokrow_ne {k : Int} {t : Lx.Tok} (h : (t.kind == k) = false) : (t.kind == k) = false := h

set_option maxRecDepth 100000 in
set_option maxHeartbeats 16000000 in
theorem atom_num (bp : Nat) (A : Option Addr) (c : Nat) (ts : List Lx.Tok) (s : St) (IH : ∀ (k : Tr.Call) (s' : St), (k = .expr ∨ k = .factor) → fuel ts k s' < fuel ts .atom s → Said bp A c ts k s')
    (h0 : isKind ts s 2 = true) : Said bp A c ts .atom s := by
  intro w h
  have HR := Lib.hid h
  have hbw := h.lt
  have hlen := h.len
  obtain ⟨r, hr⟩ : ∃ r, r = P ts .atom s := ⟨_, rfl⟩
  rw [← hr]
  rw [P_atom] at hr
  have HTK := Lib.hid (fun W s m h => take_any bp A c ts s m W h)
  have HND := Lib.hid (fun W s m h => need_any bp A c ts s m W h)
  have HNX := Lib.hid (next_any bp A c ts s)
  have HIH := Lib.hid IH
  clear h IH
  unfold fnOf argsOf
  dsimp only
  have HW0 : Hid (∀ V, Below w.heap.size w (w.alloc V)) := fun V => (Below.refl _ _).alloc (Nat.le_refl _) V

  have hck := isKind_cur ts s 2
  generalize hcu : cur ts s = cu at *
  have HCU := Lib.hid hcu
  obtain ⟨kd, tx, nn, pl⟩ := cu
  generalize hha : has ts s = hh at *
  have HHA := Lib.hid hha
  unfold tokAgg at HNX
  dsimp only at *
  rw [if_pos h0] at hr
  rw [h0] at hck
  have hck2 := hck.symm
  rw [Bool.and_eq_true] at hck2
  obtain ⟨hht, hkd⟩ := hck2
  have htok : (Tr.tok ts s).n = nn := by rw [tok_cur (by rw [HHA.out]; exact hht), HCU.out]
  rw [htok] at hr
  subst hr
  have HTT := Lib.hid (fun W h => token_any bp A c ts s 2 W h)
  have htk : token ts s 2 = (⟨kd, tx, nn, pl⟩, s.adv) := by unfold token; rw [if_pos h0, tok_cur (by rw [HHA.out]; exact hht), HCU.out]
  rw [htk] at HTT
  unfold tokAgg at HTT
  dsimp only at HTT
  clear h0 hck hht htok htk hcu hha HCU HHA
  go_enter Try.func121, Try.ntmps121
  go_wp2_with fail
  obtain ⟨W0, hW0⟩ : ∃ W0, W0 = w.alloc (.cells zrow 43) := ⟨_, rfl⟩
  unfold zrow at hW0
  rw [← hW0]
  have HB0 : Hid (Below w.heap.size w W0) := by rw [hW0]; exact HW0.out _
  have HZ0 : Hid (W0.heap[w.heap.size]? = some (.cells zrow 43 (0, 0))) := by rw [hW0]; exact heap_alloc_new _ _
  have HK0 : Hid (Took w bp 61 A c ts s W0) := (took_refl HR.out).below HB0.out
  clear hW0
  refine (HNX.out _ HK0.out.1).mono ?_
  rintro e wn ⟨rfl, hbn⟩
  have HY1 := Lib.hid ((hbn.block _ (Array.getElem?_eq_some_iff.1 HZ0.out).1).trans HZ0.out)
  have HK2 := Lib.hid (HK0.out.below hbn)
  clear HZ0 HK0
  clear hbn
  have hfl := fun W => field_num W kd nn pl tx
  go_upto_region 3 with (fail)
  obtain ⟨W3, hW⟩ : ∃ W, W = wn.alloc (.cells #[.int .i64 kd, .string ⟨tx.toArray⟩, .int .i32 nn, .int .i64 pl] 40) := ⟨_, rfl⟩
  rw [← hW]
  have hbx : Below wn.heap.size wn W3 := by rw [hW]; exact (Below.refl _ _).alloc (Nat.le_refl _) _
  have HN3 : Hid (W3.heap[wn.heap.size]? = some (.cells #[.int .i64 kd, .string ⟨tx.toArray⟩, .int .i32 nn, .int .i64 pl] 40 (0, 0))) := by rw [hW]; exact heap_alloc_new _ _
  have hlo3 : w.heap.size < wn.heap.size := (Array.getElem?_eq_some_iff.1 HY1.out).1
  clear hW
  have HY4 := Lib.hid ((hbx.block _ (Array.getElem?_eq_some_iff.1 HY1.out).1).trans HY1.out)
  have HK5 := Lib.hid (HK2.out.below hbx)
  clear HY1 HK2
  clear hbx
  go_wp2_with fail
  refine (HTT.out _ HK5.out.1).mono ?_
  rintro e w6 ⟨rfl, hk⟩
  have HY7 := Lib.hid (hk.row HY4.out (by omega))
  have HY8 := Lib.hid (hk.row HN3.out (by omega))
  have HK9 := Lib.hid (HK5.out.trans hk)
  clear HY4 HN3 HK5
  clear hk
  clear HY8
  obtain ⟨k0, k1, k2, k3, k4, k5, k6, k7⟩ := row4 HY7.out
  go_wp2_with fail
  exact ret_row 2 rfl rfl rfl (setrow4 HY7.out _ _ _ _) Try.underlying43 infoExS (gives_end (r := (.mk 1 nn [] [], s.adv)) HR.out HK9.out none 0 (by rw [at_eq]; exact atL_nil _ _ _) _ _ _ _)
set_option maxRecDepth 100000 in
set_option maxHeartbeats 16000000 in
theorem atom_true (bp : Nat) (A : Option Addr) (c : Nat) (ts : List Lx.Tok) (s : St) (IH : ∀ (k : Tr.Call) (s' : St), (k = .expr ∨ k = .factor) → fuel ts k s' < fuel ts .atom s → Said bp A c ts k s')
    (h0 : isKind ts s 2 = false) (h1 : sees ts s wTrue = true) : Said bp A c ts .atom s := by
  intro w h
  have HR := Lib.hid h
  have hbw := h.lt
  have hlen := h.len
  obtain ⟨r, hr⟩ : ∃ r, r = P ts .atom s := ⟨_, rfl⟩
  rw [← hr]
  rw [P_atom] at hr
  have HTK := Lib.hid (fun W s m h => take_any bp A c ts s m W h)
  have HND := Lib.hid (fun W s m h => need_any bp A c ts s m W h)
  have HNX := Lib.hid (next_any bp A c ts s)
  have HIH := Lib.hid IH
  clear h IH
  unfold fnOf argsOf
  dsimp only
  have HW0 : Hid (∀ V, Below w.heap.size w (w.alloc V)) := fun V => (Below.refl _ _).alloc (Nat.le_refl _) V

  have hck := isKind_cur ts s 2
  generalize hcu : cur ts s = cu at *
  have HCU := Lib.hid hcu
  obtain ⟨kd, tx, nn, pl⟩ := cu
  generalize hha : has ts s = hh at *
  have HHA := Lib.hid hha
  unfold tokAgg at HNX
  dsimp only at *
  have hkd : (kd == 2) = false := by
    cases hh with
    | true => rw [h0, Bool.true_and] at hck; exact hck.symm
    | false => have e := hcu; rw [cur_no hha] at e; injection e with e1; rw [← e1]; rfl
  rw [if_neg (by rw [h0]; decide)] at hr
  rw [if_pos h1] at hr
  have HL := Lib.hid (sees_lt h1)
  have hadv : s.at_ + 1 ≤ s.adv.at_ := Nat.le_refl _
  have HT0 := Lib.hid (fun W h => HTK.out W s wTrue h)
  rw [h1, if_pos rfl] at HT0
  unfold wTrue at HT0
  clear h0 hck h1
  subst hr
  go_enter Try.func121, Try.ntmps121
  go_wp2_with fail
  obtain ⟨W0, hW0⟩ : ∃ W0, W0 = w.alloc (.cells zrow 43) := ⟨_, rfl⟩
  unfold zrow at hW0
  rw [← hW0]
  have HB0 : Hid (Below w.heap.size w W0) := by rw [hW0]; exact HW0.out _
  have HZ0 : Hid (W0.heap[w.heap.size]? = some (.cells zrow 43 (0, 0))) := by rw [hW0]; exact heap_alloc_new _ _
  have HK0 : Hid (Took w bp 61 A c ts s W0) := (took_refl HR.out).below HB0.out
  clear hW0
  refine (HNX.out _ HK0.out.1).mono ?_
  rintro e wn ⟨rfl, hbn⟩
  have HY1 := Lib.hid ((hbn.block _ (Array.getElem?_eq_some_iff.1 HZ0.out).1).trans HZ0.out)
  have HK2 := Lib.hid (HK0.out.below hbn)
  clear HZ0 HK0
  clear hbn
  go_wp2_with fail
  obtain ⟨W3, hW⟩ : ∃ W, W = wn.alloc (.cells #[.int .i64 kd, .string ⟨tx.toArray⟩, .int .i32 nn, .int .i64 pl] 40) := ⟨_, rfl⟩
  rw [← hW]
  have hbx : Below wn.heap.size wn W3 := by rw [hW]; exact (Below.refl _ _).alloc (Nat.le_refl _) _
  have HN3 : Hid (W3.heap[wn.heap.size]? = some (.cells #[.int .i64 kd, .string ⟨tx.toArray⟩, .int .i32 nn, .int .i64 pl] 40 (0, 0))) := by rw [hW]; exact heap_alloc_new _ _
  have hlo3 : w.heap.size < wn.heap.size := (Array.getElem?_eq_some_iff.1 HY1.out).1
  clear hW
  have HY4 := Lib.hid ((hbx.block _ (Array.getElem?_eq_some_iff.1 HY1.out).1).trans HY1.out)
  have HK5 := Lib.hid (HK2.out.below hbx)
  clear HY1 HK2
  clear hbx
  clear HN3
  refine (HT0.out _ HK5.out.1).mono ?_
  rintro e w6 ⟨rfl, hk⟩
  have HY7 := Lib.hid (hk.row HY4.out (by omega))
  have HK8 := Lib.hid (HK5.out.trans hk)
  clear HY4 HK5
  clear hk
  obtain ⟨k0, k1, k2, k3, k4, k5, k6, k7⟩ := row4 HY7.out
  go_wp2_with fail
  exact ret_row 2 rfl rfl rfl (setrow4 HY7.out _ _ _ _) Try.underlying43 infoExS (gives_end (r := (.mk 2 1 [] [], s.adv)) HR.out HK8.out none 0 (by rw [at_eq]; exact atL_nil _ _ _) _ _ _ _)
set_option maxRecDepth 100000 in
set_option maxHeartbeats 16000000 in
theorem atom_false (bp : Nat) (A : Option Addr) (c : Nat) (ts : List Lx.Tok) (s : St) (IH : ∀ (k : Tr.Call) (s' : St), (k = .expr ∨ k = .factor) → fuel ts k s' < fuel ts .atom s → Said bp A c ts k s')
    (h0 : isKind ts s 2 = false) (h1 : sees ts s wTrue = false) (h2 : sees ts s wFalse = true) : Said bp A c ts .atom s := by
  intro w h
  have HR := Lib.hid h
  have hbw := h.lt
  have hlen := h.len
  obtain ⟨r, hr⟩ : ∃ r, r = P ts .atom s := ⟨_, rfl⟩
  rw [← hr]
  rw [P_atom] at hr
  have HTK := Lib.hid (fun W s m h => take_any bp A c ts s m W h)
  have HND := Lib.hid (fun W s m h => need_any bp A c ts s m W h)
  have HNX := Lib.hid (next_any bp A c ts s)
  have HIH := Lib.hid IH
  clear h IH
  unfold fnOf argsOf
  dsimp only
  have HW0 : Hid (∀ V, Below w.heap.size w (w.alloc V)) := fun V => (Below.refl _ _).alloc (Nat.le_refl _) V

  have hck := isKind_cur ts s 2
  generalize hcu : cur ts s = cu at *
  have HCU := Lib.hid hcu
  obtain ⟨kd, tx, nn, pl⟩ := cu
  generalize hha : has ts s = hh at *
  have HHA := Lib.hid hha
  unfold tokAgg at HNX
  dsimp only at *
  have hkd : (kd == 2) = false := by
    cases hh with
    | true => rw [h0, Bool.true_and] at hck; exact hck.symm
    | false => have e := hcu; rw [cur_no hha] at e; injection e with e1; rw [← e1]; rfl
  rw [if_neg (by rw [h0]; decide)] at hr
  rw [if_neg (by rw [h1]; decide)] at hr
  rw [if_pos h2] at hr
  have HL := Lib.hid (sees_lt h2)
  have hadv : s.at_ + 1 ≤ s.adv.at_ := Nat.le_refl _
  have HT0 := Lib.hid (fun W h => HTK.out W s wTrue h)
  rw [h1, if_neg (by decide)] at HT0
  unfold wTrue at HT0
  have HT1 := Lib.hid (fun W h => HTK.out W s wFalse h)
  rw [h2, if_pos rfl] at HT1
  unfold wFalse at HT1
  clear h0 hck h1 h2
  subst hr
  go_enter Try.func121, Try.ntmps121
  go_wp2_with fail
  obtain ⟨W0, hW0⟩ : ∃ W0, W0 = w.alloc (.cells zrow 43) := ⟨_, rfl⟩
  unfold zrow at hW0
  rw [← hW0]
  have HB0 : Hid (Below w.heap.size w W0) := by rw [hW0]; exact HW0.out _
  have HZ0 : Hid (W0.heap[w.heap.size]? = some (.cells zrow 43 (0, 0))) := by rw [hW0]; exact heap_alloc_new _ _
  have HK0 : Hid (Took w bp 61 A c ts s W0) := (took_refl HR.out).below HB0.out
  clear hW0
  refine (HNX.out _ HK0.out.1).mono ?_
  rintro e wn ⟨rfl, hbn⟩
  have HY1 := Lib.hid ((hbn.block _ (Array.getElem?_eq_some_iff.1 HZ0.out).1).trans HZ0.out)
  have HK2 := Lib.hid (HK0.out.below hbn)
  clear HZ0 HK0
  clear hbn
  go_wp2_with fail
  obtain ⟨W3, hW⟩ : ∃ W, W = wn.alloc (.cells #[.int .i64 kd, .string ⟨tx.toArray⟩, .int .i32 nn, .int .i64 pl] 40) := ⟨_, rfl⟩
  rw [← hW]
  have hbx : Below wn.heap.size wn W3 := by rw [hW]; exact (Below.refl _ _).alloc (Nat.le_refl _) _
  have HN3 : Hid (W3.heap[wn.heap.size]? = some (.cells #[.int .i64 kd, .string ⟨tx.toArray⟩, .int .i32 nn, .int .i64 pl] 40 (0, 0))) := by rw [hW]; exact heap_alloc_new _ _
  have hlo3 : w.heap.size < wn.heap.size := (Array.getElem?_eq_some_iff.1 HY1.out).1
  clear hW
  have HY4 := Lib.hid ((hbx.block _ (Array.getElem?_eq_some_iff.1 HY1.out).1).trans HY1.out)
  have HK5 := Lib.hid (HK2.out.below hbx)
  clear HY1 HK2
  clear hbx
  clear HN3
  refine (HT0.out _ HK5.out.1).mono ?_
  rintro e w6 ⟨rfl, hk⟩
  have HY7 := Lib.hid (hk.row HY4.out (by omega))
  have HK8 := Lib.hid (HK5.out.trans hk)
  clear HY4 HK5
  clear hk
  go_wp2_with fail
  refine (HT1.out _ HK8.out.1).mono ?_
  rintro e w9 ⟨rfl, hk⟩
  have HY10 := Lib.hid (hk.row HY7.out (by omega))
  have HK11 := Lib.hid (HK8.out.trans hk)
  clear HY7 HK8
  clear hk
  obtain ⟨k0, k1, k2, k3, k4, k5, k6, k7⟩ := row4 HY10.out
  go_wp2_with fail
  exact ret_row 2 rfl rfl rfl (setrow4 HY10.out _ _ _ _) Try.underlying43 infoExS (gives_end (r := (.mk 2 0 [] [], s.adv)) HR.out HK11.out none 0 (by rw [at_eq]; exact atL_nil _ _ _) _ _ _ _)
set_option maxRecDepth 100000 in
set_option maxHeartbeats 16000000 in
theorem atom_brackets (bp : Nat) (A : Option Addr) (c : Nat) (ts : List Lx.Tok) (s : St) (IH : ∀ (k : Tr.Call) (s' : St), (k = .expr ∨ k = .factor) → fuel ts k s' < fuel ts .atom s → Said bp A c ts k s')
    (h0 : isKind ts s 2 = false) (h1 : sees ts s wTrue = false) (h2 : sees ts s wFalse = false) (h3 : sees ts s [40] = true) : Said bp A c ts .atom s := by
  intro w h
  have HR := Lib.hid h
  have hbw := h.lt
  have hlen := h.len
  obtain ⟨r, hr⟩ : ∃ r, r = P ts .atom s := ⟨_, rfl⟩
  rw [← hr]
  rw [P_atom] at hr
  have HTK := Lib.hid (fun W s m h => take_any bp A c ts s m W h)
  have HND := Lib.hid (fun W s m h => need_any bp A c ts s m W h)
  have HNX := Lib.hid (next_any bp A c ts s)
  have HIH := Lib.hid IH
  clear h IH
  unfold fnOf argsOf
  dsimp only
  have HW0 : Hid (∀ V, Below w.heap.size w (w.alloc V)) := fun V => (Below.refl _ _).alloc (Nat.le_refl _) V

  have hck := isKind_cur ts s 2
  generalize hcu : cur ts s = cu at *
  have HCU := Lib.hid hcu
  obtain ⟨kd, tx, nn, pl⟩ := cu
  generalize hha : has ts s = hh at *
  have HHA := Lib.hid hha
  unfold tokAgg at HNX
  dsimp only at *
  have hkd : (kd == 2) = false := by
    cases hh with
    | true => rw [h0, Bool.true_and] at hck; exact hck.symm
    | false => have e := hcu; rw [cur_no hha] at e; injection e with e1; rw [← e1]; rfl
  rw [if_neg (by rw [h0]; decide)] at hr
  rw [if_neg (by rw [h1]; decide)] at hr
  rw [if_neg (by rw [h2]; decide)] at hr
  rw [if_pos h3] at hr
  have HL := Lib.hid (sees_lt h3)
  have hadv : s.at_ + 1 ≤ s.adv.at_ := Nat.le_refl _
  have HT0 := Lib.hid (fun W h => HTK.out W s wTrue h)
  rw [h1, if_neg (by decide)] at HT0
  unfold wTrue at HT0
  have HT1 := Lib.hid (fun W h => HTK.out W s wFalse h)
  rw [h2, if_neg (by decide)] at HT1
  unfold wFalse at HT1
  have HT2 := Lib.hid (fun W h => HTK.out W s [40] h)
  rw [h3, if_pos rfl] at HT2
  clear h0 hck h1 h2 h3
  have HE10 := Lib.hid (HIH.out .expr s.adv (.inl rfl) (by have := HL.out.2; simp only [fuel, rank]; omega))
  have hpaHE1 := P_at (ts := ts) .expr s.adv
  generalize hq : P ts .expr s.adv = q at *
  have HE1 : Hid (∀ w, RowAt w bp 61 A c ts s.adv → Calls Try.prog 61 #[.pointer (some ⟨bp, 0, none⟩)] w (Gives w bp A c ts q)) := by unfold RowKit.Hid; rw [← hq]; exact HE10.out
  clear hq HE10
  obtain ⟨x, s1⟩ := q
  dsimp only at *
  have HN1 := Lib.hid (fun W h => HND.out W s1 [41] h)
  subst hr
  go_enter Try.func121, Try.ntmps121
  go_wp2_with fail
  obtain ⟨W0, hW0⟩ : ∃ W0, W0 = w.alloc (.cells zrow 43) := ⟨_, rfl⟩
  unfold zrow at hW0
  rw [← hW0]
  have HB0 : Hid (Below w.heap.size w W0) := by rw [hW0]; exact HW0.out _
  have HZ0 : Hid (W0.heap[w.heap.size]? = some (.cells zrow 43 (0, 0))) := by rw [hW0]; exact heap_alloc_new _ _
  have HK0 : Hid (Took w bp 61 A c ts s W0) := (took_refl HR.out).below HB0.out
  clear hW0
  refine (HNX.out _ HK0.out.1).mono ?_
  rintro e wn ⟨rfl, hbn⟩
  have HY1 := Lib.hid ((hbn.block _ (Array.getElem?_eq_some_iff.1 HZ0.out).1).trans HZ0.out)
  have HK2 := Lib.hid (HK0.out.below hbn)
  clear HZ0 HK0
  clear hbn
  go_wp2_with fail
  obtain ⟨W3, hW⟩ : ∃ W, W = wn.alloc (.cells #[.int .i64 kd, .string ⟨tx.toArray⟩, .int .i32 nn, .int .i64 pl] 40) := ⟨_, rfl⟩
  rw [← hW]
  have hbx : Below wn.heap.size wn W3 := by rw [hW]; exact (Below.refl _ _).alloc (Nat.le_refl _) _
  have HN3 : Hid (W3.heap[wn.heap.size]? = some (.cells #[.int .i64 kd, .string ⟨tx.toArray⟩, .int .i32 nn, .int .i64 pl] 40 (0, 0))) := by rw [hW]; exact heap_alloc_new _ _
  have hlo3 : w.heap.size < wn.heap.size := (Array.getElem?_eq_some_iff.1 HY1.out).1
  clear hW
  have HY4 := Lib.hid ((hbx.block _ (Array.getElem?_eq_some_iff.1 HY1.out).1).trans HY1.out)
  have HK5 := Lib.hid (HK2.out.below hbx)
  clear HY1 HK2
  clear hbx
  clear HN3
  refine (HT0.out _ HK5.out.1).mono ?_
  rintro e w6 ⟨rfl, hk⟩
  have HY7 := Lib.hid (hk.row HY4.out (by omega))
  have HK8 := Lib.hid (HK5.out.trans hk)
  clear HY4 HK5
  clear hk
  go_wp2_with fail
  refine (HT1.out _ HK8.out.1).mono ?_
  rintro e w9 ⟨rfl, hk⟩
  have HY10 := Lib.hid (hk.row HY7.out (by omega))
  have HK11 := Lib.hid (HK8.out.trans hk)
  clear HY7 HK8
  clear hk
  go_wp2_with fail
  refine (HT2.out _ HK11.out.1).mono ?_
  rintro e w12 ⟨rfl, hk⟩
  have HY13 := Lib.hid (hk.row HY10.out (by omega))
  have HK14 := Lib.hid (HK11.out.trans hk)
  clear HY10 HK11
  clear hk
  go_wp2_with fail
  have hzz15 := (Array.getElem?_eq_some_iff.1 HY13.out).1
  refine (HE1.out _ HK14.out.1).mono ?_
  rintro e w15 ⟨Ax, cx, rfl, hat, hk⟩
  have HY16 := Lib.hid (hk.row HY13.out (by omega))
  have HK17 := Lib.hid (HK14.out.trans hk)
  clear HY13 HK14
  have HX18 := Lib.hid (hat.base (B' := fun b => w.heap.size < b) (fun b hb hl => Nat.lt_of_lt_of_le hzz15 hb))
  clear hat hk
  unfold exAgg
  dsimp only
  go_wp2_with fail
  obtain ⟨W19, hW⟩ : ∃ W, W = w15.alloc (.cells #[.int .i64 x.kind, .int .i32 x.n, .string ⟨x.name.toArray⟩, .slice Ax x.sub.length cx] 43) := ⟨_, rfl⟩
  rw [← hW]
  have hbx : Below w15.heap.size w15 W19 := by rw [hW]; exact (Below.refl _ _).alloc (Nat.le_refl _) _
  have HN19 : Hid (W19.heap[w15.heap.size]? = some (.cells #[.int .i64 x.kind, .int .i32 x.n, .string ⟨x.name.toArray⟩, .slice Ax x.sub.length cx] 43 (0, 0))) := by rw [hW]; exact heap_alloc_new _ _
  have hlo19 : w.heap.size < w15.heap.size := (Array.getElem?_eq_some_iff.1 HY16.out).1
  clear hW
  have HY20 := Lib.hid ((hbx.block _ (Array.getElem?_eq_some_iff.1 HY16.out).1).trans HY16.out)
  have HX21 := Lib.hid (HX18.out.below hbx (Nat.le_refl _))
  have HK22 := Lib.hid (HK17.out.below hbx)
  clear HY16 HX18 HK17
  clear hbx
  refine (HN1.out _ HK22.out.1).mono ?_
  rintro e w23 ⟨rfl, hk⟩
  have HY24 := Lib.hid (hk.row HY20.out (by omega))
  have HY25 := Lib.hid (hk.row HN19.out (by omega))
  have HX26 := Lib.hid (HX21.out.took hk (by omega))
  have HK27 := Lib.hid (HK22.out.trans hk)
  clear HY20 HN19 HX21 HK22
  clear hk
  obtain ⟨k0, k1, k2, k3, k4, k5, k6, k7⟩ := row4 HY24.out
  obtain ⟨m0, m1, m2, m3, m4, m5, m6, m7⟩ := row4 HY25.out
  go_wp2_with fail
  exact ret_row 2 rfl rfl rfl (setrow4 HY24.out _ _ _ _) Try.underlying43 infoExS (gives_end (r := (x, Tr.need ts s1 [41])) HR.out HK27.out Ax cx HX26.out _ _ _ _)
set_option maxRecDepth 100000 in
set_option maxHeartbeats 16000000 in
theorem atom_name (bp : Nat) (A : Option Addr) (c : Nat) (ts : List Lx.Tok) (s : St) (IH : ∀ (k : Tr.Call) (s' : St), (k = .expr ∨ k = .factor) → fuel ts k s' < fuel ts .atom s → Said bp A c ts k s')
    (h0 : isKind ts s 2 = false) (h1 : sees ts s wTrue = false) (h2 : sees ts s wFalse = false) (h3 : sees ts s [40] = false) (h4 : sees ts s wIf = false) (h5 : sees ts s wMerge = false) : Said bp A c ts .atom s := by
  intro w h
  have HR := Lib.hid h
  have hbw := h.lt
  have hlen := h.len
  obtain ⟨r, hr⟩ : ∃ r, r = P ts .atom s := ⟨_, rfl⟩
  rw [← hr]
  rw [P_atom] at hr
  have HTK := Lib.hid (fun W s m h => take_any bp A c ts s m W h)
  have HND := Lib.hid (fun W s m h => need_any bp A c ts s m W h)
  have HNX := Lib.hid (next_any bp A c ts s)
  have HIH := Lib.hid IH
  clear h IH
  unfold fnOf argsOf
  dsimp only
  have HW0 : Hid (∀ V, Below w.heap.size w (w.alloc V)) := fun V => (Below.refl _ _).alloc (Nat.le_refl _) V

  have hck := isKind_cur ts s 2
  generalize hcu : cur ts s = cu at *
  have HCU := Lib.hid hcu
  obtain ⟨kd, tx, nn, pl⟩ := cu
  generalize hha : has ts s = hh at *
  have HHA := Lib.hid hha
  unfold tokAgg at HNX
  dsimp only at *
  have hkd : (kd == 2) = false := by
    cases hh with
    | true => rw [h0, Bool.true_and] at hck; exact hck.symm
    | false => have e := hcu; rw [cur_no hha] at e; injection e with e1; rw [← e1]; rfl
  rw [if_neg (by rw [h0]; decide)] at hr
  rw [if_neg (by rw [h1]; decide)] at hr
  rw [if_neg (by rw [h2]; decide)] at hr
  rw [if_neg (by rw [h3]; decide)] at hr
  rw [if_neg (by rw [h4]; decide)] at hr
  rw [if_neg (by rw [h5]; decide)] at hr
  have HT0 := Lib.hid (fun W h => HTK.out W s wTrue h)
  rw [h1, if_neg (by decide)] at HT0
  unfold wTrue at HT0
  have HT1 := Lib.hid (fun W h => HTK.out W s wFalse h)
  rw [h2, if_neg (by decide)] at HT1
  unfold wFalse at HT1
  have HT2 := Lib.hid (fun W h => HTK.out W s [40] h)
  rw [h3, if_neg (by decide)] at HT2
  have HT3 := Lib.hid (fun W h => HTK.out W s wIf h)
  rw [h4, if_neg (by decide)] at HT3
  unfold wIf at HT3
  have HT4 := Lib.hid (fun W h => HTK.out W s wMerge h)
  rw [h5, if_neg (by decide)] at HT4
  unfold wMerge at HT4
  clear h0 hck h1 h2 h3 h4 h5
  have HC := Lib.hid (fun W h => name_any bp A c ts s W h)
  generalize hnm : Tr.name ts s = nm at *
  obtain ⟨nm, s2⟩ := nm
  clear hnm
  dsimp only at *
  subst hr
  go_enter Try.func121, Try.ntmps121
  go_wp2_with fail
  obtain ⟨W0, hW0⟩ : ∃ W0, W0 = w.alloc (.cells zrow 43) := ⟨_, rfl⟩
  unfold zrow at hW0
  rw [← hW0]
  have HB0 : Hid (Below w.heap.size w W0) := by rw [hW0]; exact HW0.out _
  have HZ0 : Hid (W0.heap[w.heap.size]? = some (.cells zrow 43 (0, 0))) := by rw [hW0]; exact heap_alloc_new _ _
  have HK0 : Hid (Took w bp 61 A c ts s W0) := (took_refl HR.out).below HB0.out
  clear hW0
  refine (HNX.out _ HK0.out.1).mono ?_
  rintro e wn ⟨rfl, hbn⟩
  have HY1 := Lib.hid ((hbn.block _ (Array.getElem?_eq_some_iff.1 HZ0.out).1).trans HZ0.out)
  have HK2 := Lib.hid (HK0.out.below hbn)
  clear HZ0 HK0
  clear hbn
  go_wp2_with fail
  obtain ⟨W3, hW⟩ : ∃ W, W = wn.alloc (.cells #[.int .i64 kd, .string ⟨tx.toArray⟩, .int .i32 nn, .int .i64 pl] 40) := ⟨_, rfl⟩
  rw [← hW]
  have hbx : Below wn.heap.size wn W3 := by rw [hW]; exact (Below.refl _ _).alloc (Nat.le_refl _) _
  have HN3 : Hid (W3.heap[wn.heap.size]? = some (.cells #[.int .i64 kd, .string ⟨tx.toArray⟩, .int .i32 nn, .int .i64 pl] 40 (0, 0))) := by rw [hW]; exact heap_alloc_new _ _
  have hlo3 : w.heap.size < wn.heap.size := (Array.getElem?_eq_some_iff.1 HY1.out).1
  clear hW
  have HY4 := Lib.hid ((hbx.block _ (Array.getElem?_eq_some_iff.1 HY1.out).1).trans HY1.out)
  have HK5 := Lib.hid (HK2.out.below hbx)
  clear HY1 HK2
  clear hbx
  clear HN3
  refine (HT0.out _ HK5.out.1).mono ?_
  rintro e w6 ⟨rfl, hk⟩
  have HY7 := Lib.hid (hk.row HY4.out (by omega))
  have HK8 := Lib.hid (HK5.out.trans hk)
  clear HY4 HK5
  clear hk
  go_wp2_with fail
  refine (HT1.out _ HK8.out.1).mono ?_
  rintro e w9 ⟨rfl, hk⟩
  have HY10 := Lib.hid (hk.row HY7.out (by omega))
  have HK11 := Lib.hid (HK8.out.trans hk)
  clear HY7 HK8
  clear hk
  go_wp2_with fail
  refine (HT2.out _ HK11.out.1).mono ?_
  rintro e w12 ⟨rfl, hk⟩
  have HY13 := Lib.hid (hk.row HY10.out (by omega))
  have HK14 := Lib.hid (HK11.out.trans hk)
  clear HY10 HK11
  clear hk
  go_wp2_with fail
  refine (HT3.out _ HK14.out.1).mono ?_
  rintro e w15 ⟨rfl, hk⟩
  have HY16 := Lib.hid (hk.row HY13.out (by omega))
  have HK17 := Lib.hid (HK14.out.trans hk)
  clear HY13 HK14
  clear hk
  go_wp2_with fail
  refine (HT4.out _ HK17.out.1).mono ?_
  rintro e w18 ⟨rfl, hk⟩
  have HY19 := Lib.hid (hk.row HY16.out (by omega))
  have HK20 := Lib.hid (HK17.out.trans hk)
  clear HY16 HK17
  clear hk
  go_wp2_with fail
  refine (HC.out _ HK20.out.1).mono ?_
  rintro e w21 ⟨rfl, hk⟩
  have HY22 := Lib.hid (hk.row HY19.out (by omega))
  have HK23 := Lib.hid (HK20.out.trans hk)
  clear HY19 HK20
  clear hk
  obtain ⟨k0, k1, k2, k3, k4, k5, k6, k7⟩ := row4 HY22.out
  go_wp2_with fail
  exact ret_row 2 rfl rfl rfl (setrow4 HY22.out _ _ _ _) Try.underlying43 infoExS (gives_end (r := (.mk 3 0 nm [], s2)) HR.out HK23.out none 0 (by rw [at_eq]; exact atL_nil _ _ _) _ _ _ _)
set_option maxRecDepth 100000 in
set_option maxHeartbeats 16000000 in
theorem atom_if (bp : Nat) (A : Option Addr) (c : Nat) (ts : List Lx.Tok) (s : St) (IH : ∀ (k : Tr.Call) (s' : St), (k = .expr ∨ k = .factor) → fuel ts k s' < fuel ts .atom s → Said bp A c ts k s')
    (h0 : isKind ts s 2 = false) (h1 : sees ts s wTrue = false) (h2 : sees ts s wFalse = false) (h3 : sees ts s [40] = false) (h4 : sees ts s wIf = true) : Said bp A c ts .atom s := by
  intro w h
  have HR := Lib.hid h
  have hbw := h.lt
  have hlen := h.len
  obtain ⟨r, hr⟩ : ∃ r, r = P ts .atom s := ⟨_, rfl⟩
  rw [← hr]
  rw [P_atom] at hr
  have HTK := Lib.hid (fun W s m h => take_any bp A c ts s m W h)
  have HND := Lib.hid (fun W s m h => need_any bp A c ts s m W h)
  have HNX := Lib.hid (next_any bp A c ts s)
  have HIH := Lib.hid IH
  clear h IH
  unfold fnOf argsOf
  dsimp only
  have HW0 : Hid (∀ V, Below w.heap.size w (w.alloc V)) := fun V => (Below.refl _ _).alloc (Nat.le_refl _) V

  have hck := isKind_cur ts s 2
  generalize hcu : cur ts s = cu at *
  have HCU := Lib.hid hcu
  obtain ⟨kd, tx, nn, pl⟩ := cu
  generalize hha : has ts s = hh at *
  have HHA := Lib.hid hha
  unfold tokAgg at HNX
  dsimp only at *
  have hkd : (kd == 2) = false := by
    cases hh with
    | true => rw [h0, Bool.true_and] at hck; exact hck.symm
    | false => have e := hcu; rw [cur_no hha] at e; injection e with e1; rw [← e1]; rfl
  rw [if_neg (by rw [h0]; decide)] at hr
  rw [if_neg (by rw [h1]; decide)] at hr
  rw [if_neg (by rw [h2]; decide)] at hr
  rw [if_neg (by rw [h3]; decide)] at hr
  rw [if_pos h4] at hr
  have HL := Lib.hid (sees_lt h4)
  have hadv : s.at_ + 1 ≤ s.adv.at_ := Nat.le_refl _
  have HT0 := Lib.hid (fun W h => HTK.out W s wTrue h)
  rw [h1, if_neg (by decide)] at HT0
  unfold wTrue at HT0
  have HT1 := Lib.hid (fun W h => HTK.out W s wFalse h)
  rw [h2, if_neg (by decide)] at HT1
  unfold wFalse at HT1
  have HT2 := Lib.hid (fun W h => HTK.out W s [40] h)
  rw [h3, if_neg (by decide)] at HT2
  have HT3 := Lib.hid (fun W h => HTK.out W s wIf h)
  rw [h4, if_pos rfl] at HT3
  unfold wIf at HT3
  clear h0 hck h1 h2 h3 h4
  have HE10 := Lib.hid (HIH.out .expr s.adv (.inl rfl) (by have := HL.out.2; simp only [fuel, rank]; omega))
  have hpaHE1 := P_at (ts := ts) .expr s.adv
  generalize hq : P ts .expr s.adv = q at *
  have HE1 : Hid (∀ w, RowAt w bp 61 A c ts s.adv → Calls Try.prog 61 #[.pointer (some ⟨bp, 0, none⟩)] w (Gives w bp A c ts q)) := by unfold RowKit.Hid; rw [← hq]; exact HE10.out
  clear hq HE10
  obtain ⟨x, s1⟩ := q
  dsimp only at *
  have HN1 := Lib.hid (fun W h => HND.out W s1 wThen h)
  have hnaHN1 := need_at (ts := ts) s1 wThen
  generalize hs : Tr.need ts s1 wThen = s2 at *
  clear hs
  unfold wThen at HN1
  have HE20 := Lib.hid (HIH.out .expr s2 (.inl rfl) (by have := HL.out.2; simp only [fuel, rank]; omega))
  have hpaHE2 := P_at (ts := ts) .expr s2
  generalize hq : P ts .expr s2 = q at *
  have HE2 : Hid (∀ w, RowAt w bp 61 A c ts s2 → Calls Try.prog 61 #[.pointer (some ⟨bp, 0, none⟩)] w (Gives w bp A c ts q)) := by unfold RowKit.Hid; rw [← hq]; exact HE20.out
  clear hq HE20
  obtain ⟨y, s3⟩ := q
  dsimp only at *
  have HN2 := Lib.hid (fun W h => HND.out W s3 wElse h)
  have hnaHN2 := need_at (ts := ts) s3 wElse
  generalize hs : Tr.need ts s3 wElse = s4 at *
  clear hs
  unfold wElse at HN2
  have HE30 := Lib.hid (HIH.out .expr s4 (.inl rfl) (by have := HL.out.2; simp only [fuel, rank]; omega))
  have hpaHE3 := P_at (ts := ts) .expr s4
  generalize hq : P ts .expr s4 = q at *
  have HE3 : Hid (∀ w, RowAt w bp 61 A c ts s4 → Calls Try.prog 61 #[.pointer (some ⟨bp, 0, none⟩)] w (Gives w bp A c ts q)) := by unfold RowKit.Hid; rw [← hq]; exact HE30.out
  clear hq HE30
  obtain ⟨z, s5⟩ := q
  dsimp only at *
  subst hr
  go_enter Try.func121, Try.ntmps121
  go_wp2_with fail
  obtain ⟨W0, hW0⟩ : ∃ W0, W0 = w.alloc (.cells zrow 43) := ⟨_, rfl⟩
  unfold zrow at hW0
  rw [← hW0]
  have HB0 : Hid (Below w.heap.size w W0) := by rw [hW0]; exact HW0.out _
  have HZ0 : Hid (W0.heap[w.heap.size]? = some (.cells zrow 43 (0, 0))) := by rw [hW0]; exact heap_alloc_new _ _
  have HK0 : Hid (Took w bp 61 A c ts s W0) := (took_refl HR.out).below HB0.out
  clear hW0
  refine (HNX.out _ HK0.out.1).mono ?_
  rintro e wn ⟨rfl, hbn⟩
  have HY1 := Lib.hid ((hbn.block _ (Array.getElem?_eq_some_iff.1 HZ0.out).1).trans HZ0.out)
  have HK2 := Lib.hid (HK0.out.below hbn)
  clear HZ0 HK0
  clear hbn
  go_wp2_with fail
  obtain ⟨W3, hW⟩ : ∃ W, W = wn.alloc (.cells #[.int .i64 kd, .string ⟨tx.toArray⟩, .int .i32 nn, .int .i64 pl] 40) := ⟨_, rfl⟩
  rw [← hW]
  have hbx : Below wn.heap.size wn W3 := by rw [hW]; exact (Below.refl _ _).alloc (Nat.le_refl _) _
  have HN3 : Hid (W3.heap[wn.heap.size]? = some (.cells #[.int .i64 kd, .string ⟨tx.toArray⟩, .int .i32 nn, .int .i64 pl] 40 (0, 0))) := by rw [hW]; exact heap_alloc_new _ _
  have hlo3 : w.heap.size < wn.heap.size := (Array.getElem?_eq_some_iff.1 HY1.out).1
  clear hW
  have HY4 := Lib.hid ((hbx.block _ (Array.getElem?_eq_some_iff.1 HY1.out).1).trans HY1.out)
  have HK5 := Lib.hid (HK2.out.below hbx)
  clear HY1 HK2
  clear hbx
  clear HN3
  refine (HT0.out _ HK5.out.1).mono ?_
  rintro e w6 ⟨rfl, hk⟩
  have HY7 := Lib.hid (hk.row HY4.out (by omega))
  have HK8 := Lib.hid (HK5.out.trans hk)
  clear HY4 HK5
  clear hk
  go_wp2_with fail
  refine (HT1.out _ HK8.out.1).mono ?_
  rintro e w9 ⟨rfl, hk⟩
  have HY10 := Lib.hid (hk.row HY7.out (by omega))
  have HK11 := Lib.hid (HK8.out.trans hk)
  clear HY7 HK8
  clear hk
  go_wp2_with fail
  refine (HT2.out _ HK11.out.1).mono ?_
  rintro e w12 ⟨rfl, hk⟩
  have HY13 := Lib.hid (hk.row HY10.out (by omega))
  have HK14 := Lib.hid (HK11.out.trans hk)
  clear HY10 HK11
  clear hk
  go_wp2_with fail
  refine (HT3.out _ HK14.out.1).mono ?_
  rintro e w15 ⟨rfl, hk⟩
  have HY16 := Lib.hid (hk.row HY13.out (by omega))
  have HK17 := Lib.hid (HK14.out.trans hk)
  clear HY13 HK14
  clear hk
  go_wp2_with fail
  have hzz18 := (Array.getElem?_eq_some_iff.1 HY16.out).1
  refine (HE1.out _ HK17.out.1).mono ?_
  rintro e w18 ⟨Ax, cx, rfl, hat, hk⟩
  have HY19 := Lib.hid (hk.row HY16.out (by omega))
  have HK20 := Lib.hid (HK17.out.trans hk)
  clear HY16 HK17
  have HX21 := Lib.hid (hat.base (B' := fun b => w.heap.size < b) (fun b hb hl => Nat.lt_of_lt_of_le hzz18 hb))
  clear hat hk
  unfold exAgg
  dsimp only
  go_wp2_with fail
  obtain ⟨W22, hW⟩ : ∃ W, W = w18.alloc (.cells #[.int .i64 x.kind, .int .i32 x.n, .string ⟨x.name.toArray⟩, .slice Ax x.sub.length cx] 43) := ⟨_, rfl⟩
  rw [← hW]
  have hbx : Below w18.heap.size w18 W22 := by rw [hW]; exact (Below.refl _ _).alloc (Nat.le_refl _) _
  have HN22 : Hid (W22.heap[w18.heap.size]? = some (.cells #[.int .i64 x.kind, .int .i32 x.n, .string ⟨x.name.toArray⟩, .slice Ax x.sub.length cx] 43 (0, 0))) := by rw [hW]; exact heap_alloc_new _ _
  have hlo22 : w.heap.size < w18.heap.size := (Array.getElem?_eq_some_iff.1 HY19.out).1
  clear hW
  have HY23 := Lib.hid ((hbx.block _ (Array.getElem?_eq_some_iff.1 HY19.out).1).trans HY19.out)
  have HX24 := Lib.hid (HX21.out.below hbx (Nat.le_refl _))
  have HK25 := Lib.hid (HK20.out.below hbx)
  clear HY19 HX21 HK20
  clear hbx
  refine (HN1.out _ HK25.out.1).mono ?_
  rintro e w26 ⟨rfl, hk⟩
  have HY27 := Lib.hid (hk.row HY23.out (by omega))
  have HY28 := Lib.hid (hk.row HN22.out (by omega))
  have HX29 := Lib.hid (HX24.out.took hk (by omega))
  have HK30 := Lib.hid (HK25.out.trans hk)
  clear HY23 HN22 HX24 HK25
  clear hk
  go_wp2_with fail
  have hzz31 := (Array.getElem?_eq_some_iff.1 HY27.out).1
  have hzHY28_31 := (Array.getElem?_eq_some_iff.1 HY28.out).1
  refine (HE2.out _ HK30.out.1).mono ?_
  rintro e w31 ⟨Ay, cy, rfl, hat, hk⟩
  have HY32 := Lib.hid (hk.row HY27.out (by omega))
  have HY33 := Lib.hid (hk.row HY28.out (by omega))
  have HX34 := Lib.hid (HX29.out.took hk (by omega))
  have HK35 := Lib.hid (HK30.out.trans hk)
  clear HY27 HY28 HX29 HK30
  have HX36 := Lib.hid (hat.base (B' := fun b => w.heap.size < b) (fun b hb hl => Nat.lt_of_lt_of_le hzz31 hb))
  clear hat hk
  unfold exAgg
  dsimp only
  go_wp2_with fail
  obtain ⟨W37, hW⟩ : ∃ W, W = w31.alloc (.cells #[.int .i64 y.kind, .int .i32 y.n, .string ⟨y.name.toArray⟩, .slice Ay y.sub.length cy] 43) := ⟨_, rfl⟩
  rw [← hW]
  have hbx : Below w31.heap.size w31 W37 := by rw [hW]; exact (Below.refl _ _).alloc (Nat.le_refl _) _
  have HN37 : Hid (W37.heap[w31.heap.size]? = some (.cells #[.int .i64 y.kind, .int .i32 y.n, .string ⟨y.name.toArray⟩, .slice Ay y.sub.length cy] 43 (0, 0))) := by rw [hW]; exact heap_alloc_new _ _
  have hlo37 : w.heap.size < w31.heap.size := (Array.getElem?_eq_some_iff.1 HY32.out).1
  clear hW
  have HY38 := Lib.hid ((hbx.block _ (Array.getElem?_eq_some_iff.1 HY32.out).1).trans HY32.out)
  have HY39 := Lib.hid ((hbx.block _ (Array.getElem?_eq_some_iff.1 HY33.out).1).trans HY33.out)
  have HX40 := Lib.hid (HX34.out.below hbx (Nat.le_refl _))
  have HX41 := Lib.hid (HX36.out.below hbx (Nat.le_refl _))
  have HK42 := Lib.hid (HK35.out.below hbx)
  clear HY32 HY33 HX34 HX36 HK35
  clear hbx
  refine (HN2.out _ HK42.out.1).mono ?_
  rintro e w43 ⟨rfl, hk⟩
  have HY44 := Lib.hid (hk.row HY38.out (by omega))
  have HY45 := Lib.hid (hk.row HY39.out (by omega))
  have HY46 := Lib.hid (hk.row HN37.out (by omega))
  have HX47 := Lib.hid (HX40.out.took hk (by omega))
  have HX48 := Lib.hid (HX41.out.took hk (by omega))
  have HK49 := Lib.hid (HK42.out.trans hk)
  clear HY38 HY39 HN37 HX40 HX41 HK42
  clear hk
  go_wp2_with fail
  obtain ⟨m00, m01, m02, m03, _⟩ := row4 HY45.out
  obtain ⟨m10, m11, m12, m13, _⟩ := row4 HY46.out
  have hgz : w.heap.size < w43.heap.size := (Array.getElem?_eq_some_iff.1 HY44.out).1
  have hgr0 : w18.heap.size ≠ w.heap.size := by omega
  have hgr1 : w31.heap.size ≠ w.heap.size := by omega
  have HKA : Hid (Took w bp 61 A c ts s4 w43.drew) := HK49.out.below (Below.refl _ _).drew
  have HRA := Lib.hid HKA.out.1
  go_region_held3 (fun W => (W.cell? ⟨w18.heap.size, 0, none⟩ = some (.int .i64 x.kind) ∧ W.cell? ⟨w18.heap.size, 1, none⟩ = some (.int .i32 x.n) ∧ W.cell? ⟨w18.heap.size, 2, none⟩ = some (.string ⟨x.name.toArray⟩) ∧ W.cell? ⟨w18.heap.size, 3, none⟩ = some (.slice Ax x.sub.length cx)) ∧ (W.cell? ⟨w31.heap.size, 0, none⟩ = some (.int .i64 y.kind) ∧ W.cell? ⟨w31.heap.size, 1, none⟩ = some (.int .i32 y.n) ∧ W.cell? ⟨w31.heap.size, 2, none⟩ = some (.string ⟨y.name.toArray⟩) ∧ W.cell? ⟨w31.heap.size, 3, none⟩ = some (.slice Ay y.sub.length cy))) (first | (with_reducible exact ⟨row4c (row_drew HY45.out), row4c (row_drew HY46.out)⟩) | (with_reducible exact ⟨row4c HM90.out, row4c HM91.out⟩) | (with_reducible exact ⟨row4c (row_alloc HM90.out _), row4c (row_alloc HM91.out _)⟩) | (with_reducible exact ⟨row4c (v_keep HM90.out hgr0 _ _ _ _ _), row4c (v_keep HM91.out hgr1 _ _ _ _ _)⟩)) ((go_at_call 61; refine (HE3.out _ HRA.out).mono ?_; rintro e wz ⟨Az, cz, rfl, hat, hk⟩; have HK9 := Lib.hid (HKA.out.trans hk); have HZ9 : Hid (wz.heap[w.heap.size]? = some (.cells zrow 43 (0, 0))) := hk.row HY44.out (by omega); have HM90 : Hid (wz.heap[w18.heap.size]? = some (.cells #[.int .i64 x.kind, .int .i32 x.n, .string ⟨x.name.toArray⟩, .slice Ax x.sub.length cx] 43 (0, 0))) := hk.row HY45.out (by omega); have HM91 : Hid (wz.heap[w31.heap.size]? = some (.cells #[.int .i64 y.kind, .int .i32 y.n, .string ⟨y.name.toArray⟩, .slice Ay y.sub.length cy] 43 (0, 0))) := hk.row HY46.out (by omega); have HX90 := Lib.hid ((HX47.out.below (Below.refl _ _).drew (Nat.le_refl _)).took hk (by omega)); have HX91 := Lib.hid ((HX48.out.below (Below.refl _ _).drew (Nat.le_refl _)).took hk (by omega)); have HY9 := Lib.hid (hat.base (B' := fun b => w.heap.size < b) (fun b hb hl => Nat.lt_of_lt_of_le hgz hb)); clear hat hk; have hz9 := (Array.getElem?_eq_some_iff.1 HZ9.out).1; have hm90 := (Array.getElem?_eq_some_iff.1 HM90.out).1; have hm91 := (Array.getElem?_eq_some_iff.1 HM91.out).1; unfold exAgg; dsimp only; obtain ⟨k0, k1, k2, k3, f0, f1, f2, f3⟩ := row4 HZ9.out))
  go_wp2_with fail
  refine ret_row 2 rfl rfl rfl (v_res HZ9.out _ _ _ _ _) Try.underlying43 infoExS ⟨some ⟨wz.heap.size, 0, none⟩, 3, rfl, ?_, v_took HK9.out HR.out _ _ _ _ _⟩
  dsimp only
  rw [at_eq]
  exact atL3 (v_row _ _ _ _ _) (Nat.le_of_lt hz9) (v_at _ _ _ _ _ HX90.out) (v_at _ _ _ _ _ HX91.out) (v_at _ _ _ _ _ HY9.out)
set_option maxRecDepth 100000 in
set_option maxHeartbeats 16000000 in
theorem atom_merge (bp : Nat) (A : Option Addr) (c : Nat) (ts : List Lx.Tok) (s : St) (IH : ∀ (k : Tr.Call) (s' : St), (k = .expr ∨ k = .factor) → fuel ts k s' < fuel ts .atom s → Said bp A c ts k s')
    (h0 : isKind ts s 2 = false) (h1 : sees ts s wTrue = false) (h2 : sees ts s wFalse = false) (h3 : sees ts s [40] = false) (h4 : sees ts s wIf = false) (h5 : sees ts s wMerge = true) : Said bp A c ts .atom s := by
  intro w h
  have HR := Lib.hid h
  have hbw := h.lt
  have hlen := h.len
  obtain ⟨r, hr⟩ : ∃ r, r = P ts .atom s := ⟨_, rfl⟩
  rw [← hr]
  rw [P_atom] at hr
  have HTK := Lib.hid (fun W s m h => take_any bp A c ts s m W h)
  have HND := Lib.hid (fun W s m h => need_any bp A c ts s m W h)
  have HNX := Lib.hid (next_any bp A c ts s)
  have HIH := Lib.hid IH
  clear h IH
  unfold fnOf argsOf
  dsimp only
  have HW0 : Hid (∀ V, Below w.heap.size w (w.alloc V)) := fun V => (Below.refl _ _).alloc (Nat.le_refl _) V

  have hck := isKind_cur ts s 2
  generalize hcu : cur ts s = cu at *
  have HCU := Lib.hid hcu
  obtain ⟨kd, tx, nn, pl⟩ := cu
  generalize hha : has ts s = hh at *
  have HHA := Lib.hid hha
  unfold tokAgg at HNX
  dsimp only at *
  have hkd : (kd == 2) = false := by
    cases hh with
    | true => rw [h0, Bool.true_and] at hck; exact hck.symm
    | false => have e := hcu; rw [cur_no hha] at e; injection e with e1; rw [← e1]; rfl
  rw [if_neg (by rw [h0]; decide)] at hr
  rw [if_neg (by rw [h1]; decide)] at hr
  rw [if_neg (by rw [h2]; decide)] at hr
  rw [if_neg (by rw [h3]; decide)] at hr
  rw [if_neg (by rw [h4]; decide)] at hr
  rw [if_pos h5] at hr
  have HL := Lib.hid (sees_lt h5)
  have hadv : s.at_ + 1 ≤ s.adv.at_ := Nat.le_refl _
  have HT0 := Lib.hid (fun W h => HTK.out W s wTrue h)
  rw [h1, if_neg (by decide)] at HT0
  unfold wTrue at HT0
  have HT1 := Lib.hid (fun W h => HTK.out W s wFalse h)
  rw [h2, if_neg (by decide)] at HT1
  unfold wFalse at HT1
  have HT2 := Lib.hid (fun W h => HTK.out W s [40] h)
  rw [h3, if_neg (by decide)] at HT2
  have HT3 := Lib.hid (fun W h => HTK.out W s wIf h)
  rw [h4, if_neg (by decide)] at HT3
  unfold wIf at HT3
  have HT4 := Lib.hid (fun W h => HTK.out W s wMerge h)
  rw [h5, if_pos rfl] at HT4
  unfold wMerge at HT4
  clear h0 hck h1 h2 h3 h4 h5
  have HC := Lib.hid (fun W h => name_any bp A c ts s.adv W h)
  have hnn := name_at (ts := ts) s.adv
  generalize hnm : Tr.name ts s.adv = nm at *
  obtain ⟨nm, s1⟩ := nm
  clear hnm
  dsimp only at *
  have HE10 := Lib.hid (HIH.out .factor s1 (.inr rfl) (by have := HL.out.2; simp only [fuel, rank]; omega))
  have hpaHE1 := P_at (ts := ts) .factor s1
  generalize hq : P ts .factor s1 = q at *
  have HE1 : Hid (∀ w, RowAt w bp 61 A c ts s1 → Calls Try.prog 120 #[.pointer (some ⟨bp, 0, none⟩)] w (Gives w bp A c ts q)) := by unfold RowKit.Hid; rw [← hq]; exact HE10.out
  clear hq HE10
  obtain ⟨x, s2⟩ := q
  dsimp only at *
  have HE20 := Lib.hid (HIH.out .factor s2 (.inr rfl) (by have := HL.out.2; simp only [fuel, rank]; omega))
  have hpaHE2 := P_at (ts := ts) .factor s2
  generalize hq : P ts .factor s2 = q at *
  have HE2 : Hid (∀ w, RowAt w bp 61 A c ts s2 → Calls Try.prog 120 #[.pointer (some ⟨bp, 0, none⟩)] w (Gives w bp A c ts q)) := by unfold RowKit.Hid; rw [← hq]; exact HE20.out
  clear hq HE20
  obtain ⟨y, s3⟩ := q
  dsimp only at *
  subst hr
  go_enter Try.func121, Try.ntmps121
  go_wp2_with fail
  obtain ⟨W0, hW0⟩ : ∃ W0, W0 = w.alloc (.cells zrow 43) := ⟨_, rfl⟩
  unfold zrow at hW0
  rw [← hW0]
  have HB0 : Hid (Below w.heap.size w W0) := by rw [hW0]; exact HW0.out _
  have HZ0 : Hid (W0.heap[w.heap.size]? = some (.cells zrow 43 (0, 0))) := by rw [hW0]; exact heap_alloc_new _ _
  have HK0 : Hid (Took w bp 61 A c ts s W0) := (took_refl HR.out).below HB0.out
  clear hW0
  refine (HNX.out _ HK0.out.1).mono ?_
  rintro e wn ⟨rfl, hbn⟩
  have HY1 := Lib.hid ((hbn.block _ (Array.getElem?_eq_some_iff.1 HZ0.out).1).trans HZ0.out)
  have HK2 := Lib.hid (HK0.out.below hbn)
  clear HZ0 HK0
  clear hbn
  go_wp2_with fail
  obtain ⟨W3, hW⟩ : ∃ W, W = wn.alloc (.cells #[.int .i64 kd, .string ⟨tx.toArray⟩, .int .i32 nn, .int .i64 pl] 40) := ⟨_, rfl⟩
  rw [← hW]
  have hbx : Below wn.heap.size wn W3 := by rw [hW]; exact (Below.refl _ _).alloc (Nat.le_refl _) _
  have HN3 : Hid (W3.heap[wn.heap.size]? = some (.cells #[.int .i64 kd, .string ⟨tx.toArray⟩, .int .i32 nn, .int .i64 pl] 40 (0, 0))) := by rw [hW]; exact heap_alloc_new _ _
  have hlo3 : w.heap.size < wn.heap.size := (Array.getElem?_eq_some_iff.1 HY1.out).1
  clear hW
  have HY4 := Lib.hid ((hbx.block _ (Array.getElem?_eq_some_iff.1 HY1.out).1).trans HY1.out)
  have HK5 := Lib.hid (HK2.out.below hbx)
  clear HY1 HK2
  clear hbx
  clear HN3
  refine (HT0.out _ HK5.out.1).mono ?_
  rintro e w6 ⟨rfl, hk⟩
  have HY7 := Lib.hid (hk.row HY4.out (by omega))
  have HK8 := Lib.hid (HK5.out.trans hk)
  clear HY4 HK5
  clear hk
  go_wp2_with fail
  refine (HT1.out _ HK8.out.1).mono ?_
  rintro e w9 ⟨rfl, hk⟩
  have HY10 := Lib.hid (hk.row HY7.out (by omega))
  have HK11 := Lib.hid (HK8.out.trans hk)
  clear HY7 HK8
  clear hk
  go_wp2_with fail
  refine (HT2.out _ HK11.out.1).mono ?_
  rintro e w12 ⟨rfl, hk⟩
  have HY13 := Lib.hid (hk.row HY10.out (by omega))
  have HK14 := Lib.hid (HK11.out.trans hk)
  clear HY10 HK11
  clear hk
  go_wp2_with fail
  refine (HT3.out _ HK14.out.1).mono ?_
  rintro e w15 ⟨rfl, hk⟩
  have HY16 := Lib.hid (hk.row HY13.out (by omega))
  have HK17 := Lib.hid (HK14.out.trans hk)
  clear HY13 HK14
  clear hk
  go_wp2_with fail
  refine (HT4.out _ HK17.out.1).mono ?_
  rintro e w18 ⟨rfl, hk⟩
  have HY19 := Lib.hid (hk.row HY16.out (by omega))
  have HK20 := Lib.hid (HK17.out.trans hk)
  clear HY16 HK17
  clear hk
  go_wp2_with fail
  refine (HC.out _ HK20.out.1).mono ?_
  rintro e w21 ⟨rfl, hk⟩
  have HY22 := Lib.hid (hk.row HY19.out (by omega))
  have HK23 := Lib.hid (HK20.out.trans hk)
  clear HY19 HK20
  clear hk
  go_wp2_with fail
  have hzz24 := (Array.getElem?_eq_some_iff.1 HY22.out).1
  refine (HE1.out _ HK23.out.1).mono ?_
  rintro e w24 ⟨Ax, cx, rfl, hat, hk⟩
  have HY25 := Lib.hid (hk.row HY22.out (by omega))
  have HK26 := Lib.hid (HK23.out.trans hk)
  clear HY22 HK23
  have HX27 := Lib.hid (hat.base (B' := fun b => w.heap.size < b) (fun b hb hl => Nat.lt_of_lt_of_le hzz24 hb))
  clear hat hk
  unfold exAgg
  dsimp only
  go_wp2_with fail
  obtain ⟨W28, hW⟩ : ∃ W, W = w24.alloc (.cells #[.int .i64 x.kind, .int .i32 x.n, .string ⟨x.name.toArray⟩, .slice Ax x.sub.length cx] 43) := ⟨_, rfl⟩
  rw [← hW]
  have hbx : Below w24.heap.size w24 W28 := by rw [hW]; exact (Below.refl _ _).alloc (Nat.le_refl _) _
  have HN28 : Hid (W28.heap[w24.heap.size]? = some (.cells #[.int .i64 x.kind, .int .i32 x.n, .string ⟨x.name.toArray⟩, .slice Ax x.sub.length cx] 43 (0, 0))) := by rw [hW]; exact heap_alloc_new _ _
  have hlo28 : w.heap.size < w24.heap.size := (Array.getElem?_eq_some_iff.1 HY25.out).1
  clear hW
  have HY29 := Lib.hid ((hbx.block _ (Array.getElem?_eq_some_iff.1 HY25.out).1).trans HY25.out)
  have HX30 := Lib.hid (HX27.out.below hbx (Nat.le_refl _))
  have HK31 := Lib.hid (HK26.out.below hbx)
  clear HY25 HX27 HK26
  clear hbx
  obtain ⟨m00, m01, m02, m03, _⟩ := row4 HN28.out
  have hgz : w.heap.size < W28.heap.size := (Array.getElem?_eq_some_iff.1 HY29.out).1
  have hgr0 : w24.heap.size ≠ w.heap.size := by omega
  have HKA : Hid (Took w bp 61 A c ts s2 W28.drew) := HK31.out.below (Below.refl _ _).drew
  have HRA := Lib.hid HKA.out.1
  go_region_held3 (fun W => (W.cell? ⟨w24.heap.size, 0, none⟩ = some (.int .i64 x.kind) ∧ W.cell? ⟨w24.heap.size, 1, none⟩ = some (.int .i32 x.n) ∧ W.cell? ⟨w24.heap.size, 2, none⟩ = some (.string ⟨x.name.toArray⟩) ∧ W.cell? ⟨w24.heap.size, 3, none⟩ = some (.slice Ax x.sub.length cx))) (first | (with_reducible exact row4c (row_drew HN28.out)) | (with_reducible exact row4c HM90.out) | (with_reducible exact row4c (row_alloc HM90.out _)) | (with_reducible exact row4c (v_keep HM90.out hgr0 _ _ _ _ _))) ((go_at_call 120; refine (HE2.out _ HRA.out).mono ?_; rintro e wz ⟨Ay, cy, rfl, hat, hk⟩; have HK9 := Lib.hid (HKA.out.trans hk); have HZ9 : Hid (wz.heap[w.heap.size]? = some (.cells zrow 43 (0, 0))) := hk.row HY29.out (by omega); have HM90 : Hid (wz.heap[w24.heap.size]? = some (.cells #[.int .i64 x.kind, .int .i32 x.n, .string ⟨x.name.toArray⟩, .slice Ax x.sub.length cx] 43 (0, 0))) := hk.row HN28.out (by omega); have HX90 := Lib.hid ((HX30.out.below (Below.refl _ _).drew (Nat.le_refl _)).took hk (by omega)); have HY9 := Lib.hid (hat.base (B' := fun b => w.heap.size < b) (fun b hb hl => Nat.lt_of_lt_of_le hgz hb)); clear hat hk; have hz9 := (Array.getElem?_eq_some_iff.1 HZ9.out).1; have hm90 := (Array.getElem?_eq_some_iff.1 HM90.out).1; unfold exAgg; dsimp only; obtain ⟨k0, k1, k2, k3, f0, f1, f2, f3⟩ := row4 HZ9.out))
  go_wp2_with fail
  refine ret_row 2 rfl rfl rfl (v_res HZ9.out _ _ _ _ _) Try.underlying43 infoExS ⟨some ⟨wz.heap.size, 0, none⟩, 2, rfl, ?_, v_took HK9.out HR.out _ _ _ _ _⟩
  dsimp only
  rw [at_eq]
  exact atL2 (v_row _ _ _ _ _) (Nat.le_of_lt hz9) (v_at _ _ _ _ _ HX90.out) (v_at _ _ _ _ _ HY9.out)
theorem atom_of (bp : Nat) (A : Option Addr) (c : Nat) (ts : List Lx.Tok) (s : St) (IH : ∀ (k : Tr.Call) (s' : St), (k = .expr ∨ k = .factor) → fuel ts k s' < fuel ts .atom s → Said bp A c ts k s') : Said bp A c ts .atom s := by
  rcases h0 : isKind ts s 2 with _ | _
  rotate_left
  · exact atom_num bp A c ts s IH h0
  rcases h1 : sees ts s wTrue with _ | _
  rotate_left
  · exact atom_true bp A c ts s IH h0 h1
  rcases h2 : sees ts s wFalse with _ | _
  rotate_left
  · exact atom_false bp A c ts s IH h0 h1 h2
  rcases h3 : sees ts s [40] with _ | _
  rotate_left
  · exact atom_brackets bp A c ts s IH h0 h1 h2 h3
  rcases h4 : sees ts s wIf with _ | _
  rotate_left
  · exact atom_if bp A c ts s IH h0 h1 h2 h3 h4
  rcases h5 : sees ts s wMerge with _ | _
  rotate_left
  · exact atom_merge bp A c ts s IH h0 h1 h2 h3 h4 h5
  · exact atom_name bp A c ts s IH h0 h1 h2 h3 h4 h5
end Go.Proofs.Ytilkilffkjhhbaa
