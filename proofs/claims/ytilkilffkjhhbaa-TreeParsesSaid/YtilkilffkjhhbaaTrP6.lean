/-
  The rule factor.
-/
import Derived.Test.YtilkilffkjhhbaaTrPa
namespace Go.Proofs.Ytilkilffkjhhbaa
set_option maxRecDepth 20000
set_option linter.unusedVariables false
open Go.RowKit Tr Mem

/-- what holds at the head of factor's loop -/
def FacAt (w : World) (bp g3 : Nat) (A : Option Addr) (c : Nat) (ts : List Lx.Tok) (r : Ex × St) (x : Ex) (s : St) (Ax : Option Addr) (cx : Nat) (W : World) : Prop :=
  r = P ts (.floop x) s ∧ Took w bp 61 A c ts s W ∧ W.heap[w.heap.size]? = some (.cells zrow 43 (0, 0)) ∧ W.heap[g3]? = some (.cells #[.int .i64 x.kind, .int .i32 x.n, .string ⟨x.name.toArray⟩, .slice Ax x.sub.length cx] 43 (0, 0)) ∧ At W (fun b => w.heap.size < b ∧ b ≠ g3) x Ax
set_option maxRecDepth 100000 in
set_option maxHeartbeats 16000000 in
theorem factor_of (bp : Nat) (A : Option Addr) (c : Nat) (ts : List Lx.Tok) (s : St) (IH : ∀ (k : Tr.Call) (s' : St), k = .atom → fuel ts k s' < fuel ts .factor s → Said bp A c ts k s') : Said bp A c ts .factor s := by
  intro w h
  have HR := Lib.hid h
  have hbw := h.lt
  have hlen := h.len
  obtain ⟨r, hr⟩ : ∃ r, r = P ts .factor s := ⟨_, rfl⟩
  rw [← hr]
  rw [P_factor] at hr
  have HS0 := Lib.hid (IH .atom s rfl (by simp [fuel, rank]))
  clear h IH
  unfold fnOf argsOf
  dsimp only
  have HW0 : Hid (∀ V, Below w.heap.size w (w.alloc V)) := fun V => (Below.refl _ _).alloc (Nat.le_refl _) V
  generalize hq : P ts .atom s = q at *
  have HSA : Hid (∀ w, RowAt w bp 61 A c ts s → Calls Try.prog 121 #[.pointer (some ⟨bp, 0, none⟩)] w (Gives w bp A c ts q)) := by unfold RowKit.Hid; rw [← hq]; exact HS0.out
  clear hq HS0
  obtain ⟨x, s1⟩ := q
  dsimp only at *
  have HRR := Lib.hid hr
  clear hr
  have HTK := Lib.hid (fun W s m h => take_any bp A c ts s m W h)
  have HNM := Lib.hid (fun W s h => name_any bp A c ts s W h)
  go_enter Try.func120, Try.ntmps120
  go_wp2_with fail
  obtain ⟨W0, hW0⟩ : ∃ W0, W0 = w.alloc (.cells zrow 43) := ⟨_, rfl⟩
  unfold zrow at hW0
  rw [← hW0]
  have HB0 : Hid (Below w.heap.size w W0) := by rw [hW0]; exact HW0.out _
  have HZ0 : Hid (W0.heap[w.heap.size]? = some (.cells zrow 43 (0, 0))) := by rw [hW0]; exact heap_alloc_new _ _
  have HK0 : Hid (Took w bp 61 A c ts s W0) := (took_refl HR.out).below HB0.out
  clear hW0
  have hzz1 := (Array.getElem?_eq_some_iff.1 HZ0.out).1
  refine (HSA.out _ HK0.out.1).mono ?_
  rintro e w1 ⟨Ax, cx, rfl, hat, hk⟩
  have HY2 := Lib.hid (hk.row HZ0.out (by omega))
  have HK3 := Lib.hid (HK0.out.trans hk)
  clear HZ0 HK0
  have HX4 := Lib.hid (hat.base (B' := fun b => w.heap.size < b ∧ b ≠ w1.heap.size) (fun b hb hl => ⟨Nat.lt_of_lt_of_le hzz1 hb, Nat.ne_of_lt hl⟩))
  clear hat hk
  unfold exAgg
  dsimp only
  go_wp2_with fail
  obtain ⟨W5, hW⟩ : ∃ W, W = w1.alloc (.cells #[.int .i64 x.kind, .int .i32 x.n, .string ⟨x.name.toArray⟩, .slice Ax x.sub.length cx] 43) := ⟨_, rfl⟩
  rw [← hW]
  have hbx : Below w1.heap.size w1 W5 := by rw [hW]; exact (Below.refl _ _).alloc (Nat.le_refl _) _
  have HN5 : Hid (W5.heap[w1.heap.size]? = some (.cells #[.int .i64 x.kind, .int .i32 x.n, .string ⟨x.name.toArray⟩, .slice Ax x.sub.length cx] 43 (0, 0))) := by rw [hW]; exact heap_alloc_new _ _
  have hlo5 : w.heap.size < w1.heap.size := (Array.getElem?_eq_some_iff.1 HY2.out).1
  clear hW
  have HY6 := Lib.hid ((hbx.block _ (Array.getElem?_eq_some_iff.1 HY2.out).1).trans HY2.out)
  have HX7 := Lib.hid (HX4.out.below hbx (Nat.le_refl _))
  have HK8 := Lib.hid (HK3.out.below hbx)
  clear HY2 HX4 HK3
  clear hbx
  have HF0 : Hid (FacAt w bp w1.heap.size A c ts r x s1 Ax cx W5) := ⟨HRR.out, HK8.out, HY6.out, HN5.out, HX7.out⟩
  clear HK8 HY6 HN5 HX7 HRR
  go_loopw [4] (fun _ wr => ∃ (x : Ex) (s : St) (Ax : Option Addr) (cx : Nat), Hid (FacAt w bp w1.heap.size A c ts r x s Ax cx wr)) (fun _ wr => ts.length - atOf wr bp)
  case atStart => exact ⟨x, s1, Ax, cx, HF0.out⟩
  case round =>
    clear HF0
    obtain ⟨x, s1, Ax, cx, HF⟩ := hrel
    obtain ⟨hrr, hk0, hz0, hm0, hx0⟩ := HF.out
    have HK := Lib.hid hk0
    have HZ := Lib.hid hz0
    have HM := Lib.hid hm0
    have HX := Lib.hid hx0
    have hat0 := hk0.1.atOf
    have HAT0 := Lib.hid hat0
    rw [P_floop] at hrr
    clear hk0 hz0 hm0 hx0 hat0
    clear HF
    have HT1 := Lib.hid (fun W h => HTK.out W s1 wWhen h)
    unfold wWhen at HT1
    have hw1 : sees ts s1 wWhen = sees ts s1 [119, 104, 101, 110] := rfl
    have hw2 : sees ts s1 wUnless = sees ts s1 [117, 110, 108, 101, 115, 115] := rfl
    rw [hw1, hw2] at hrr
    clear hw1 hw2
    rcases h1 : sees ts s1 [119, 104, 101, 110] with _ | _
    rotate_left
    · rw [if_pos h1] at hrr
      have HL := Lib.hid (sees_lt h1)
      have HRR := Lib.hid hrr
      rw [h1, if_pos rfl] at HT1
      clear h1 hrr
      go_wp2_with fail
      refine (HT1.out _ HK.out.1).mono ?_
      rintro e wx ⟨rfl, hk⟩
      have HK2 := Lib.hid (HK.out.trans hk)
      have HZ2 := Lib.hid (hk.row HZ.out (by omega))
      have HM2 := Lib.hid (hk.row HM.out (by omega))
      have HX2 := Lib.hid (HX.out.took hk (by omega))
      clear hk HK HZ HM HX
      have hgz : w.heap.size < wx.heap.size := (Array.getElem?_eq_some_iff.1 HZ2.out).1
      have hg3 : w1.heap.size < wx.heap.size := (Array.getElem?_eq_some_iff.1 HM2.out).1
      have HNA := Lib.hid (name_at (ts := ts) s1.adv)
      have HC := Lib.hid (fun W h => HNM.out W s1.adv h)
      generalize hnm : Tr.name ts s1.adv = nm at *
      obtain ⟨nm, s2⟩ := nm
      clear hnm
      dsimp only at *
      obtain ⟨m0, m1, m2, m3, _⟩ := row4 HM2.out
      go_wp2_with fail
      have HN0 := Lib.hid (heap_alloc_new wx (.cells #[.int .i64 x.kind, .int .i32 x.n, .string ⟨x.name.toArray⟩, .slice Ax x.sub.length cx] 43))
      have hbx : Below wx.heap.size wx (wx.alloc (.cells #[.int .i64 x.kind, .int .i32 x.n, .string ⟨x.name.toArray⟩, .slice Ax x.sub.length cx] 43)) := (Below.refl _ _).alloc (Nat.le_refl _) _
      have HBX := Lib.hid hbx
      clear hbx
      have HKA : Hid (Took w bp 61 A c ts s1.adv wx.drew) := HK2.out.below (Below.refl _ _).drew
      have HKB : Hid (Took w bp 61 A c ts s1.adv (wx.alloc (.cells #[.int .i64 x.kind, .int .i32 x.n, .string ⟨x.name.toArray⟩, .slice Ax x.sub.length cx] 43)).drew) := (HK2.out.below HBX.out).below (Below.refl _ _).drew
      have HRA := Lib.hid HKA.out.1
      have HRB := Lib.hid HKB.out.1
      go_region_with (first | (go_at_call 64; (with_reducible refine (HC.out _ HRA.out).mono ?_); rintro e wz ⟨rfl, hk⟩; have HK9 := Lib.hid ((HKA.out).trans hk); have HZ9 : Hid (wz.heap[w.heap.size]? = some (.cells zrow 43 (0, 0))) := hk.row HZ2.out (by omega); have HM9 : Hid (wz.heap[w1.heap.size]? = some (.cells #[.int .i64 x.kind, .int .i32 x.n, .string ⟨x.name.toArray⟩, .slice Ax x.sub.length cx] 43 (0, 0))) := hk.row HM2.out (by omega); have HX9 := Lib.hid ((HX2.out.below (Below.refl _ _).drew (Nat.le_refl _)).took hk (by omega)); clear hk; have hz9 := (Array.getElem?_eq_some_iff.1 HZ9.out).1; have hm9 := (Array.getElem?_eq_some_iff.1 HM9.out).1; obtain ⟨n0, n1, n2, n3, f0, f1, f2, f3⟩ := row4 HM9.out) | (go_at_call 64; (with_reducible refine (HC.out _ HRB.out).mono ?_); rintro e wz ⟨rfl, hk⟩; have HK9 := Lib.hid ((HKB.out).trans hk); have HZ9 : Hid (wz.heap[w.heap.size]? = some (.cells zrow 43 (0, 0))) := hk.row (row_alloc HZ2.out (.cells #[.int .i64 x.kind, .int .i32 x.n, .string ⟨x.name.toArray⟩, .slice Ax x.sub.length cx] 43)) (by omega); have HM9 : Hid (wz.heap[w1.heap.size]? = some (.cells #[.int .i64 x.kind, .int .i32 x.n, .string ⟨x.name.toArray⟩, .slice Ax x.sub.length cx] 43 (0, 0))) := hk.row (row_alloc HM2.out (.cells #[.int .i64 x.kind, .int .i32 x.n, .string ⟨x.name.toArray⟩, .slice Ax x.sub.length cx] 43)) (by omega); have HX9 := Lib.hid (((HX2.out.below HBX.out (Nat.le_refl _)).below (Below.refl _ _).drew (Nat.le_refl _)).took hk (by omega)); have HN9 := Lib.hid (hk.row HN0.out (by omega)); clear hk; have hz9 := (Array.getElem?_eq_some_iff.1 HZ9.out).1; have hm9 := (Array.getElem?_eq_some_iff.1 HM9.out).1; obtain ⟨n0, n1, n2, n3, f0, f1, f2, f3⟩ := row4 HM9.out))
      all_goals clear HRA HRB HKA HKB
      all_goals go_wp2_with fail
      · have hkv := v_took2 HK9.out HR.out (g := w1.heap.size) (Nat.le_of_lt (by omega)) #[.int .i64 x.kind, .int .i32 x.n, .string ⟨x.name.toArray⟩, .slice Ax x.sub.length cx] (.int .i64 8) (.int .i32 0) (.string ⟨nm.toArray⟩) (.slice (some ⟨wz.heap.size, 0, none⟩) 1 1)
        have hat := hkv.1.atOf
        have HKV := Lib.hid hkv
        clear hkv
        go_roundw
        case rel => exact ⟨.mk 8 0 nm [x], s2, some ⟨wz.heap.size, 0, none⟩, 1, HRR.out, HKV.out, v_keep HZ9.out (by omega) _ _ _ _ _, v_res HM9.out _ _ _ _ _, by rw [at_eq]; exact atL1 (v_row _ _ _ _ _) ⟨hz9, by omega⟩ (v_atk _ _ _ _ _ HX9.out (fun h => h.2 rfl))⟩
        case measure => rw [hat, HAT0.out]; have := HL.out.2; have := HNA.out; rw [adv_at] at this; omega
      · have hkv := v_took2 HK9.out HR.out (g := w1.heap.size) (Nat.le_of_lt (by omega)) #[.int .i64 x.kind, .int .i32 x.n, .string ⟨x.name.toArray⟩, .slice Ax x.sub.length cx] (.int .i64 8) (.int .i32 0) (.string ⟨nm.toArray⟩) (.slice (some ⟨wz.heap.size, 0, none⟩) 1 1)
        have hat := hkv.1.atOf
        have HKV := Lib.hid hkv
        clear hkv
        go_roundw
        case rel => exact ⟨.mk 8 0 nm [x], s2, some ⟨wz.heap.size, 0, none⟩, 1, HRR.out, HKV.out, v_keep HZ9.out (by omega) _ _ _ _ _, v_res HM9.out _ _ _ _ _, by rw [at_eq]; exact atL1 (v_row _ _ _ _ _) ⟨hz9, by omega⟩ (v_atk _ _ _ _ _ HX9.out (fun h => h.2 rfl))⟩
        case measure => rw [hat, HAT0.out]; have := HL.out.2; have := HNA.out; rw [adv_at] at this; omega
      · have hkv := took_set4 HK9.out.1 HK9.out.2 HR.out (g := w1.heap.size) (Nat.le_of_lt (by omega)) (.int .i64 8) (.int .i32 0) (.string ⟨nm.toArray⟩) (.slice (some ⟨wx.heap.size, 0, none⟩) 1 1)
        have hat := hkv.1.atOf
        have HKV := Lib.hid hkv
        clear hkv
        go_roundw
        case rel => exact ⟨.mk 8 0 nm [x], s2, some ⟨wx.heap.size, 0, none⟩, 1, HRR.out, HKV.out, s4_keep HZ9.out (by omega) _ _ _ _, setrow4 HM9.out _ _ _ _, by rw [at_eq]; exact atL1 (s4_keep HN9.out (by omega) _ _ _ _) ⟨hgz, by omega⟩ (s4_atk _ _ _ _ HX9.out (fun h => h.2 rfl))⟩
        case measure => rw [hat, HAT0.out]; have := HL.out.2; have := HNA.out; rw [adv_at] at this; omega
    rw [if_neg (by rw [h1]; decide)] at hrr
    rw [h1, if_neg (by decide)] at HT1
    clear h1
    have HT2 := Lib.hid (fun W h => HTK.out W s1 wUnless h)
    unfold wUnless at HT2
    rcases h1 : sees ts s1 [117, 110, 108, 101, 115, 115] with _ | _
    rotate_left
    · rw [if_pos h1] at hrr
      have HL := Lib.hid (sees_lt h1)
      have HRR := Lib.hid hrr
      rw [h1, if_pos rfl] at HT2
      clear h1 hrr
      go_wp2_with fail
      refine (HT1.out _ HK.out.1).mono ?_
      rintro e wy ⟨rfl, hk⟩
      have HK1 := Lib.hid (HK.out.trans hk)
      have HZ1 := Lib.hid (hk.row HZ.out (by omega))
      have HM1 := Lib.hid (hk.row HM.out (by omega))
      have HX1 := Lib.hid (HX.out.took hk (by omega))
      clear hk HK HZ HM HX
      go_wp2_with fail
      refine (HT2.out _ HK1.out.1).mono ?_
      rintro e wx ⟨rfl, hk⟩
      have HK2 := Lib.hid (HK1.out.trans hk)
      have HZ2 := Lib.hid (hk.row HZ1.out (by omega))
      have HM2 := Lib.hid (hk.row HM1.out (by omega))
      have HX2 := Lib.hid (HX1.out.took hk (by omega))
      clear hk HK1 HZ1 HM1 HX1
      have hgz : w.heap.size < wx.heap.size := (Array.getElem?_eq_some_iff.1 HZ2.out).1
      have hg3 : w1.heap.size < wx.heap.size := (Array.getElem?_eq_some_iff.1 HM2.out).1
      have HNA := Lib.hid (name_at (ts := ts) s1.adv)
      have HC := Lib.hid (fun W h => HNM.out W s1.adv h)
      generalize hnm : Tr.name ts s1.adv = nm at *
      obtain ⟨nm, s2⟩ := nm
      clear hnm
      dsimp only at *
      obtain ⟨m0, m1, m2, m3, _⟩ := row4 HM2.out
      go_wp2_with fail
      have HN0 := Lib.hid (heap_alloc_new wx (.cells #[.int .i64 x.kind, .int .i32 x.n, .string ⟨x.name.toArray⟩, .slice Ax x.sub.length cx] 43))
      have hbx : Below wx.heap.size wx (wx.alloc (.cells #[.int .i64 x.kind, .int .i32 x.n, .string ⟨x.name.toArray⟩, .slice Ax x.sub.length cx] 43)) := (Below.refl _ _).alloc (Nat.le_refl _) _
      have HBX := Lib.hid hbx
      clear hbx
      have HKA : Hid (Took w bp 61 A c ts s1.adv wx.drew) := HK2.out.below (Below.refl _ _).drew
      have HKB : Hid (Took w bp 61 A c ts s1.adv (wx.alloc (.cells #[.int .i64 x.kind, .int .i32 x.n, .string ⟨x.name.toArray⟩, .slice Ax x.sub.length cx] 43)).drew) := (HK2.out.below HBX.out).below (Below.refl _ _).drew
      have HRA := Lib.hid HKA.out.1
      have HRB := Lib.hid HKB.out.1
      go_region_with (first | (go_at_call 64; (with_reducible refine (HC.out _ HRA.out).mono ?_); rintro e wz ⟨rfl, hk⟩; have HK9 := Lib.hid ((HKA.out).trans hk); have HZ9 : Hid (wz.heap[w.heap.size]? = some (.cells zrow 43 (0, 0))) := hk.row HZ2.out (by omega); have HM9 : Hid (wz.heap[w1.heap.size]? = some (.cells #[.int .i64 x.kind, .int .i32 x.n, .string ⟨x.name.toArray⟩, .slice Ax x.sub.length cx] 43 (0, 0))) := hk.row HM2.out (by omega); have HX9 := Lib.hid ((HX2.out.below (Below.refl _ _).drew (Nat.le_refl _)).took hk (by omega)); clear hk; have hz9 := (Array.getElem?_eq_some_iff.1 HZ9.out).1; have hm9 := (Array.getElem?_eq_some_iff.1 HM9.out).1; obtain ⟨n0, n1, n2, n3, f0, f1, f2, f3⟩ := row4 HM9.out) | (go_at_call 64; (with_reducible refine (HC.out _ HRB.out).mono ?_); rintro e wz ⟨rfl, hk⟩; have HK9 := Lib.hid ((HKB.out).trans hk); have HZ9 : Hid (wz.heap[w.heap.size]? = some (.cells zrow 43 (0, 0))) := hk.row (row_alloc HZ2.out (.cells #[.int .i64 x.kind, .int .i32 x.n, .string ⟨x.name.toArray⟩, .slice Ax x.sub.length cx] 43)) (by omega); have HM9 : Hid (wz.heap[w1.heap.size]? = some (.cells #[.int .i64 x.kind, .int .i32 x.n, .string ⟨x.name.toArray⟩, .slice Ax x.sub.length cx] 43 (0, 0))) := hk.row (row_alloc HM2.out (.cells #[.int .i64 x.kind, .int .i32 x.n, .string ⟨x.name.toArray⟩, .slice Ax x.sub.length cx] 43)) (by omega); have HX9 := Lib.hid (((HX2.out.below HBX.out (Nat.le_refl _)).below (Below.refl _ _).drew (Nat.le_refl _)).took hk (by omega)); have HN9 := Lib.hid (hk.row HN0.out (by omega)); clear hk; have hz9 := (Array.getElem?_eq_some_iff.1 HZ9.out).1; have hm9 := (Array.getElem?_eq_some_iff.1 HM9.out).1; obtain ⟨n0, n1, n2, n3, f0, f1, f2, f3⟩ := row4 HM9.out))
      all_goals clear HRA HRB HKA HKB
      all_goals go_wp2_with fail
      · have hkv := v_took2 HK9.out HR.out (g := w1.heap.size) (Nat.le_of_lt (by omega)) #[.int .i64 x.kind, .int .i32 x.n, .string ⟨x.name.toArray⟩, .slice Ax x.sub.length cx] (.int .i64 9) (.int .i32 0) (.string ⟨nm.toArray⟩) (.slice (some ⟨wz.heap.size, 0, none⟩) 1 1)
        have hat := hkv.1.atOf
        have HKV := Lib.hid hkv
        clear hkv
        go_roundw
        case rel => exact ⟨.mk 9 0 nm [x], s2, some ⟨wz.heap.size, 0, none⟩, 1, HRR.out, HKV.out, v_keep HZ9.out (by omega) _ _ _ _ _, v_res HM9.out _ _ _ _ _, by rw [at_eq]; exact atL1 (v_row _ _ _ _ _) ⟨hz9, by omega⟩ (v_atk _ _ _ _ _ HX9.out (fun h => h.2 rfl))⟩
        case measure => rw [hat, HAT0.out]; have := HL.out.2; have := HNA.out; rw [adv_at] at this; omega
      · have hkv := v_took2 HK9.out HR.out (g := w1.heap.size) (Nat.le_of_lt (by omega)) #[.int .i64 x.kind, .int .i32 x.n, .string ⟨x.name.toArray⟩, .slice Ax x.sub.length cx] (.int .i64 9) (.int .i32 0) (.string ⟨nm.toArray⟩) (.slice (some ⟨wz.heap.size, 0, none⟩) 1 1)
        have hat := hkv.1.atOf
        have HKV := Lib.hid hkv
        clear hkv
        go_roundw
        case rel => exact ⟨.mk 9 0 nm [x], s2, some ⟨wz.heap.size, 0, none⟩, 1, HRR.out, HKV.out, v_keep HZ9.out (by omega) _ _ _ _ _, v_res HM9.out _ _ _ _ _, by rw [at_eq]; exact atL1 (v_row _ _ _ _ _) ⟨hz9, by omega⟩ (v_atk _ _ _ _ _ HX9.out (fun h => h.2 rfl))⟩
        case measure => rw [hat, HAT0.out]; have := HL.out.2; have := HNA.out; rw [adv_at] at this; omega
      · have hkv := took_set4 HK9.out.1 HK9.out.2 HR.out (g := w1.heap.size) (Nat.le_of_lt (by omega)) (.int .i64 9) (.int .i32 0) (.string ⟨nm.toArray⟩) (.slice (some ⟨wx.heap.size, 0, none⟩) 1 1)
        have hat := hkv.1.atOf
        have HKV := Lib.hid hkv
        clear hkv
        go_roundw
        case rel => exact ⟨.mk 9 0 nm [x], s2, some ⟨wx.heap.size, 0, none⟩, 1, HRR.out, HKV.out, s4_keep HZ9.out (by omega) _ _ _ _, setrow4 HM9.out _ _ _ _, by rw [at_eq]; exact atL1 (s4_keep HN9.out (by omega) _ _ _ _) ⟨hgz, by omega⟩ (s4_atk _ _ _ _ HX9.out (fun h => h.2 rfl))⟩
        case measure => rw [hat, HAT0.out]; have := HL.out.2; have := HNA.out; rw [adv_at] at this; omega
    · rw [if_neg (by rw [h1]; decide)] at hrr
      rw [h1, if_neg (by decide)] at HT2
      clear h1
      go_wp2_with fail
      refine (HT1.out _ HK.out.1).mono ?_
      rintro e wy ⟨rfl, hk⟩
      have HK1 := Lib.hid (HK.out.trans hk)
      have HZ1 := Lib.hid (hk.row HZ.out (by omega))
      have HM1 := Lib.hid (hk.row HM.out (by omega))
      have HX1 := Lib.hid (HX.out.took hk (by omega))
      clear hk HK HZ HM HX
      go_wp2_with fail
      refine (HT2.out _ HK1.out.1).mono ?_
      rintro e wx ⟨rfl, hk⟩
      have HK2 := Lib.hid (HK1.out.trans hk)
      have HZ2 := Lib.hid (hk.row HZ1.out (by omega))
      have HM2 := Lib.hid (hk.row HM1.out (by omega))
      have HX2 := Lib.hid ((HX1.out.took hk (by omega)).base (B' := fun b => w.heap.size < b) (fun b hb _ => hb.1))
      clear hk HK1 HZ1 HM1 HX1
      subst hrr
      obtain ⟨k0, k1, k2, k3, f0, f1, f2, f3⟩ := row4 HZ2.out
      obtain ⟨m0, m1, m2, m3, _⟩ := row4 HM2.out
      go_wp2_with fail
      exact ret_row 2 rfl rfl rfl (setrow4 HZ2.out _ _ _ _) Try.underlying43 infoExS (gives_end HR.out HK2.out Ax cx HX2.out _ _ _ _)
end Go.Proofs.Ytilkilffkjhhbaa
