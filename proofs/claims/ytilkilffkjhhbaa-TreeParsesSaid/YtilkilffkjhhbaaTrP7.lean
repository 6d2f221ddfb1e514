/-
  The rules of operations of two values: level.
-/
import Derived.Test.YtilkilffkjhhbaaTrPa
namespace Go.Proofs.Ytilkilffkjhhbaa
set_option maxRecDepth 20000
set_option linter.unusedVariables false
open Go.RowKit Tr Mem

theorem ops_ok (n : Nat) : ∀ o ∈ ops n, 1 ≤ o ∧ o ≤ 16 := by
  unfold ops
  repeat' split
  all_goals (intro o ho; simp at ho; omega)
theorem ops_ne (n : Nat) : ∀ o ∈ ops n, o ≠ 0 := fun o ho => by have := ops_ok n o ho; omega
theorem ops_len (n : Nat) : (ops n).length ≤ 100 := by
  unfold ops
  repeat' split
  all_goals decide
theorem among_mem (ts : List Lx.Tok) (s : St) : ∀ l : List Int, among ts s l = 0 ∨ among ts s l ∈ l
  | [] => .inl rfl
  | o :: r => by
    rw [among_cons]
    split
    · exact .inr (by simp)
    · rcases among_mem ts s r with h | h
      · exact .inl h
      · exact .inr (by simp [h])
theorem opm_ne {o : Int} (h1 : 1 ≤ o) (h2 : o ≤ 16) : opm o ≠ [] := by
  rcases op_cases h1 h2 with rfl | rfl | rfl | rfl | rfl | rfl | rfl | rfl | rfl | rfl | rfl | rfl | rfl | rfl | rfl | rfl <;> decide
def markM : Value → Nat
  | .string s => if s.size = 0 then 0 else 1
  | _ => 0
theorem markM_of (m : Lx.Bs) : markM (.string ⟨m.toArray⟩) = if m = [] then 0 else 1 := by
  cases m <;> simp [markM, ByteArray.size]
/-- what holds at the head of level's loop -/
def LevAt (w : World) (bp g5 n : Nat) (A : Option Addr) (c : Nat) (ts : List Lx.Tok) (r : Ex × St) (x : Ex) (s : St) (o : Int) (Ax : Option Addr) (cx : Nat) (W : World) : Prop :=
  r = P ts (.loop n x) s ∧ o = among ts s (ops n) ∧ Took w bp 61 A c ts (if o = 0 then s else s.adv) W ∧ W.heap[w.heap.size]? = some (.cells zrow 43 (0, 0)) ∧ W.heap[g5]? = some (.cells #[.int .i64 x.kind, .int .i32 x.n, .string ⟨x.name.toArray⟩, .slice Ax x.sub.length cx] 43 (0, 0)) ∧ At W (fun b => w.heap.size < b ∧ b ≠ g5) x Ax
set_option maxRecDepth 100000 in
set_option maxHeartbeats 16000000 in
theorem level6_of (bp : Nat) (A : Option Addr) (c : Nat) (ts : List Lx.Tok) (s : St) (IH : ∀ (k : Tr.Call) (s' : St), k = .unary → fuel ts k s' < fuel ts (.level 6) s → Said bp A c ts k s') : Said bp A c ts (.level 6) s := by
  intro w h
  have HR := Lib.hid h
  have hbw := h.lt
  obtain ⟨r, hr⟩ : ∃ r, r = P ts (.level 6) s := ⟨_, rfl⟩
  rw [← hr]
  rw [P_six] at hr
  have HS0 := Lib.hid (IH .unary s rfl (by simp [fuel, rank]))
  clear h IH
  unfold fnOf argsOf
  dsimp only
  have HW0 : Hid (∀ V, Below w.heap.size w (w.alloc V)) := fun V => (Below.refl _ _).alloc (Nat.le_refl _) V
  have HSA : Hid (∀ w, RowAt w bp 61 A c ts s → Calls Try.prog 111 #[.pointer (some ⟨bp, 0, none⟩)] w (Gives w bp A c ts r)) := by unfold RowKit.Hid; rw [hr]; exact HS0.out
  clear hr HS0
  obtain ⟨x, s1⟩ := r
  have h6 : ((6 : Nat) : Int) = 6 := rfl
  rw [h6]
  clear h6
  go_enter Try.func96, Try.ntmps96
  go_wp2_with fail
  obtain ⟨W0, hW0⟩ : ∃ W0, W0 = w.alloc (.cells zrow 43) := ⟨_, rfl⟩
  unfold zrow at hW0
  rw [← hW0]
  have HB0 : Hid (Below w.heap.size w W0) := by rw [hW0]; exact HW0.out _
  have HZ0 : Hid (W0.heap[w.heap.size]? = some (.cells zrow 43 (0, 0))) := by rw [hW0]; exact heap_alloc_new _ _
  have HK0 : Hid (Took w bp 61 A c ts s W0) := (took_refl HR.out).below HB0.out
  clear hW0
  have hzz1 := (Array.getElem?_eq_some_iff.1 HZ0.out).1
  refine (HSA.out _ HK0.out.1).mono ?_
  rintro e w1 ⟨Ax, cx, rfl, hat, hk⟩
  have HY2 := Lib.hid (hk.row HZ0.out (by omega))
  have HK3 := Lib.hid (HK0.out.trans hk)
  clear HZ0 HK0
  have HX4 := Lib.hid (hat.base (B' := fun b => w.heap.size < b) (fun b hb hl => Nat.lt_of_lt_of_le hzz1 hb))
  clear hat hk
  unfold exAgg
  dsimp only
  obtain ⟨k0, k1, k2, k3, k4, k5, k6, k7⟩ := row4 HY2.out
  go_wp2_with fail
  exact ret_row 4 rfl rfl rfl (setrow4 HY2.out _ _ _ _) Try.underlying43 infoExS (gives_end HR.out HK3.out Ax cx HX4.out _ _ _ _)
set_option maxRecDepth 100000 in
set_option maxHeartbeats 16000000 in
theorem level_of (bp : Nat) (A : Option Addr) (c : Nat) (ts : List Lx.Tok) (n : Nat) (hn : n ≤ 5) (s : St) (IH : ∀ (s' : St), fuel ts (.level (n + 1)) s' < fuel ts (.level n) s → Said bp A c ts (.level (n + 1)) s') : Said bp A c ts (.level n) s := by
  intro w h
  have HR := Lib.hid h
  have hbw := h.lt
  have hlen := h.len
  obtain ⟨r, hr⟩ : ∃ r, r = P ts (.level n) s := ⟨_, rfl⟩
  rw [← hr]
  rw [P_level hn] at hr
  have hn1 : ((n + 1 : Nat) : Int) = (n : Int) + 1 := by omega
  have HIH : Hid (∀ s', fuel ts (.level (n + 1)) s' < fuel ts (.level n) s → ∀ w, RowAt w bp 61 A c ts s' → Calls Try.prog 96 #[.pointer (some ⟨bp, 0, none⟩), .int .i64 ((n : Int) + 1)] w (Gives w bp A c ts (P ts (.level (n + 1)) s'))) := by
    intro s' hs'
    have := IH s' hs'
    unfold Said fnOf argsOf at this
    dsimp only at this
    rw [hn1] at this
    exact this
  have HS0 := Lib.hid (HIH.out s (by simp only [fuel, rank]; omega))
  have HFU : Hid (∀ s' : St, s.at_ < ts.length → s.at_ + 1 ≤ s'.at_ → fuel ts (.level (n + 1)) s' < fuel ts (.level n) s) := fun s' h1 h2 => by simp only [fuel, rank]; omega
  have HPA := Lib.hid (P_at (ts := ts) (.level (n + 1)) s)
  clear h IH hn1
  unfold fnOf argsOf
  dsimp only
  have HW0 : Hid (∀ V, Below w.heap.size w (w.alloc V)) := fun V => (Below.refl _ _).alloc (Nat.le_refl _) V
  have hn6 : ((n : Int) == 6) = false := beq_eq_false_iff_ne.2 (by omega)
  generalize hq : P ts (.level (n + 1)) s = q at *
  obtain ⟨x, s1⟩ := q
  dsimp only at *
  have HRR := Lib.hid hr
  clear hr hq
  have HMK := Lib.hid (fun W => marks_any n hn W)
  have HAN := Lib.hid (fun W s g cc hne h hst => any_any bp A c ts s g cc (ops n) (ops_ne n) (ops_len n) hne W h hst)
  have HOP := Lib.hid (ops_ok n)
  go_enter Try.func96, Try.ntmps96
  go_wp2_with fail
  obtain ⟨W0, hW0⟩ : ∃ W0, W0 = w.alloc (.cells zrow 43) := ⟨_, rfl⟩
  unfold zrow at hW0
  rw [← hW0]
  have HB0 : Hid (Below w.heap.size w W0) := by rw [hW0]; exact HW0.out _
  have HZ0 : Hid (W0.heap[w.heap.size]? = some (.cells zrow 43 (0, 0))) := by rw [hW0]; exact heap_alloc_new _ _
  have HK0 : Hid (Took w bp 61 A c ts s W0) := (took_refl HR.out).below HB0.out
  clear hW0
  have hzz1 := (Array.getElem?_eq_some_iff.1 HZ0.out).1
  refine (HS0.out _ HK0.out.1).mono ?_
  rintro e w1 ⟨Ax, cx, rfl, hat, hk⟩
  have HY2 := Lib.hid (hk.row HZ0.out (by omega))
  have HK3 := Lib.hid (HK0.out.trans hk)
  clear HZ0 HK0
  have HX4 := Lib.hid (hat.base (B' := fun b => w.heap.size < b ∧ b ≠ w1.heap.size) (fun b hb hl => ⟨Nat.lt_of_lt_of_le hzz1 hb, Nat.ne_of_lt hl⟩))
  clear hat hk
  unfold exAgg
  dsimp only
  go_wp2_with fail
  obtain ⟨W5, hW⟩ : ∃ W, W = w1.alloc (.cells #[.int .i64 x.kind, .int .i32 x.n, .string ⟨x.name.toArray⟩, .slice Ax x.sub.length cx] 43) := ⟨_, rfl⟩
  rw [← hW]
  have hbx : Below w1.heap.size w1 W5 := by rw [hW]; exact (Below.refl _ _).alloc (Nat.le_refl _) _
  have HN5 : Hid (W5.heap[w1.heap.size]? = some (.cells #[.int .i64 x.kind, .int .i32 x.n, .string ⟨x.name.toArray⟩, .slice Ax x.sub.length cx] 43 (0, 0))) := by rw [hW]; exact heap_alloc_new _ _
  have hlo5 : w.heap.size < w1.heap.size := (Array.getElem?_eq_some_iff.1 HY2.out).1
  clear hW
  have HY6 := Lib.hid ((hbx.block _ (Array.getElem?_eq_some_iff.1 HY2.out).1).trans HY2.out)
  have HX7 := Lib.hid (HX4.out.below hbx (Nat.le_refl _))
  have HK8 := Lib.hid (HK3.out.below hbx)
  clear HY2 HX4 HK3
  clear hbx
  go_wp2_with fail
  go_region_held3 (fun w' => True) (first | exact trivial | go_keep) (first | (go_at_call 113; refine (HMK.out _).mono ?_; rintro e wmp ⟨ccp, rfl, hst, hbm, hbl⟩; have HKmp := Lib.hid ((HK8.out.below (Below.refl _ _).drew).below hbm); have HZmp : Hid (wmp.heap[w.heap.size]? = some (.cells zrow 43 (0, 0))) := (hbm.block _ (Array.getElem?_eq_some_iff.1 HY6.out).1).trans HY6.out; have HMmp := Lib.hid ((hbm.block _ (Array.getElem?_eq_some_iff.1 HN5.out).1).trans HN5.out); have HXmp := Lib.hid ((HX7.out.below (Below.refl _ _).drew (Nat.le_refl _)).below hbm (Nat.le_refl _)); have HSTmp := Lib.hid hst; have hgmp : w.heap.size < W5.drew.heap.size := (Array.getElem?_eq_some_iff.1 HY6.out).1; clear hst hbm hbl) | (go_at_call 112; refine (HAN.out _ s1 _ ccp (by simp only [World.drew] at *; omega) HKmp.out.1 HSTmp.out).mono ?_; rintro e wap ⟨rfl, hk⟩; have HKp := Lib.hid (HKmp.out.trans hk); have HZp := Lib.hid (hk.row HZmp.out (by omega)); have HMp := Lib.hid (hk.row HMmp.out (by omega)); have HXp := Lib.hid (HXmp.out.took hk (by omega)); clear hk))
  have HF0 : Hid (LevAt w bp w1.heap.size n A c ts r x s1 (among ts s1 (ops n)) Ax cx wap) := ⟨HRR.out, rfl, HKp.out, HZp.out, HMp.out, HXp.out⟩
  clear HKp HZp HMp HXp HKmp HZmp HMmp HXmp HSTmp HS0 HK8 HY6 HN5 HX7 HRR
  go_wp2_with fail
  go_loopw [6] (fun v wr => ∃ (x : Ex) (s1 : St) (o : Int) (Ax : Option Addr) (cx : Nat), v = .string ⟨(opm o).toArray⟩ ∧ s.at_ ≤ s1.at_ ∧ Hid (LevAt w bp w1.heap.size n A c ts r x s1 o Ax cx wr)) (fun v wr => 2 * (ts.length - atOf wr bp) + markM v)
  case atStart => exact ⟨x, s1, _, Ax, cx, rfl, HPA.out, HF0.out⟩
  case round =>
    clear HF0
    obtain ⟨x, s1, o, Ax, cx, rfl, hss, HF⟩ := hrel
    obtain ⟨hrr, ho, hk0, hz0, hm0, hx0⟩ := HF.out
    have HZ := Lib.hid hz0
    have HM := Lib.hid hm0
    have HX := Lib.hid hx0
    have HAT0 := Lib.hid hk0.1.atOf
    clear HF
    by_cases h0 : o = 0
    · subst h0
      rw [if_pos rfl] at hk0
      rw [P_loop_end ho.symm] at hrr
      subst hrr
      have HK := Lib.hid hk0
      have HX2 := Lib.hid (hx0.base (B' := fun b => w.heap.size < b) (fun b hb _ => hb.1))
      clear hk0 hz0 hm0 hx0 ho HX
      have e0 : opm 0 = [] := rfl
      rw [e0]
      clear e0
      obtain ⟨k0, k1, k2, k3, f0, f1, f2, f3⟩ := row4 HZ.out
      obtain ⟨m0, m1, m2, m3, _⟩ := row4 HM.out
      go_wp2_with fail
      exact ret_row 4 rfl rfl rfl (setrow4 HZ.out _ _ _ _) Try.underlying43 infoExS (gives_end HR.out HK.out Ax cx HX2.out _ _ _ _)
    · rw [if_neg h0] at hk0
      have hne : among ts s1 (ops n) ≠ 0 := by rw [← ho]; exact h0
      rw [P_loop hn hne, ← ho] at hrr
      have HL := Lib.hid (among_lt _ _ hne)
      have hrng : 1 ≤ o ∧ o ≤ 16 := by
        rcases among_mem ts s1 (ops n) with h | h
        · exact absurd h hne
        · rw [← ho] at h; exact HOP.out _ h
      have hme := opm_ne hrng.1 hrng.2
      have HOPOF : Hid (∀ W, Calls Try.prog 114 #[.string ⟨(opm o).toArray⟩] W fun e w' => e = .returned (.int .i32 o) ∧ W = w') := fun W => opof o hrng.1 hrng.2 W
      have HSL := Lib.hid (HIH.out s1.adv (HFU.out _ (by have := HL.out.2; omega) (by rw [adv_at]; omega)))
      have HPS := Lib.hid (P_at (ts := ts) (.level (n + 1)) s1.adv)
      generalize hqq : P ts (.level (n + 1)) s1.adv = q at *
      obtain ⟨y, s2⟩ := q
      dsimp only at *
      have HK := Lib.hid hk0
      have HRR := Lib.hid hrr
      generalize hmo : opm o = mo at *
      have HMO := Lib.hid hmo
      have HME := Lib.hid hme
      have g1 : (!mo.isEmpty) = true := by simpa using hme
      have g2 : mo.isEmpty = false := by simpa using hme
      have H0 := Lib.hid h0
      clear hk0 hz0 hm0 hx0 ho hne hrr hqq hmo hme h0 hrng
      have hgz : w.heap.size < wr.heap.size := (Array.getElem?_eq_some_iff.1 HZ.out).1
      have hg5 : w1.heap.size < wr.heap.size := (Array.getElem?_eq_some_iff.1 HM.out).1
      have HKA : Hid (Took w bp 61 A c ts s1.adv wr.drew) := HK.out.below (Below.refl _ _).drew
      have HRA := Lib.hid HKA.out.1
      obtain ⟨m0, m1, m2, m3, _⟩ := row4 HM.out
      have HRN1 : Hid (n = 2 → r = (bin o x y, s2)) := fun h => by have := HRR.out; rw [if_pos h] at this; exact this
      have HRN2 : Hid (n ≠ 2 → r = P ts (.loop n (bin o x y)) s2) := fun h => by have := HRR.out; rw [if_neg h] at this; exact this
      clear HRR
      have h2 : (((n : Int) == 2) = true ∧ n = 2) ∨ (((n : Int) == 2) = false ∧ n ≠ 2) := by
        by_cases h : n = 2
        · exact .inl ⟨by rw [beq_iff_eq]; omega, h⟩
        · exact .inr ⟨beq_eq_false_iff_ne.2 (by omega), h⟩
      rcases h2 with ⟨b2, h2⟩ | ⟨b2, h2⟩
      all_goals
        first | have HRN := Lib.hid (HRN1.out h2) | have HRN := Lib.hid (HRN2.out h2)
        clear HRN1 HRN2 h2
        go_wp2_with fail
        have hwr : IntKind.i64.wrap ((n : Int) + 1) = (n : Int) + 1 := by rw [IntKind.wrap_i64]; omega
        go_region_with (first | (go_at_call 114; refine (HOPOF.out _).mono ?_; rintro e w' ⟨rfl, rfl⟩) | (go_at_call 96; (with_reducible refine (HSL.out _ HRA.out).mono ?_); rintro e wz ⟨Ay, cy, rfl, hat, hk⟩; have HK9 := Lib.hid (HKA.out.trans hk); have HZ9 : Hid (wz.heap[w.heap.size]? = some (.cells zrow 43 (0, 0))) := hk.row HZ.out (by omega); have HM9 : Hid (wz.heap[w1.heap.size]? = some (.cells #[.int .i64 x.kind, .int .i32 x.n, .string ⟨x.name.toArray⟩, .slice Ax x.sub.length cx] 43 (0, 0))) := hk.row HM.out (by omega); have HX9 := Lib.hid ((HX.out.below (Below.refl _ _).drew (Nat.le_refl _)).took hk (by omega)); have HY9 := Lib.hid (hat.base (B' := fun b => w.heap.size < b ∧ b ≠ w1.heap.size) (fun b hb hl => ⟨Nat.lt_of_lt_of_le hgz hb, Nat.ne_of_gt (Nat.lt_of_lt_of_le hg5 hb)⟩)); clear hat hk; have hz9 := (Array.getElem?_eq_some_iff.1 HZ9.out).1; have hm9 := (Array.getElem?_eq_some_iff.1 HM9.out).1; unfold exAgg; dsimp only; obtain ⟨n0, n1, n2, n3, f0, f1, f2, f3⟩ := row4 HM9.out))
        all_goals clear HRA HKA hwr
        all_goals
          obtain ⟨V, hV⟩ : ∃ V, V = (((((wz.setCell ⟨w1.heap.size, 0, none⟩ (.int .i64 5)).setCell ⟨w1.heap.size, 1, none⟩ (.int .i32 o)).setCell ⟨w1.heap.size, 2, none⟩ (.string ⟨#[]⟩)).setCell ⟨w1.heap.size, 3, none⟩ (.slice (some ⟨wz.heap.size, 0, none⟩) 2 2)).alloc (.cells #[.int .i64 x.kind, .int .i32 x.n, .string ⟨x.name.toArray⟩, .slice Ax x.sub.length cx, .int .i64 y.kind, .int .i32 y.n, .string ⟨y.name.toArray⟩, .slice Ay y.sub.length cy] 43)) := ⟨_, rfl⟩
          rw [← hV]
          have HKV : Hid (Took w bp 61 A c ts s2 V) := by rw [hV]; exact v_took2 HK9.out HR.out (Nat.le_of_lt (by omega)) _ _ _ _ _
          have HZV : Hid (V.heap[w.heap.size]? = some (.cells zrow 43 (0, 0))) := by rw [hV]; exact v_keep HZ9.out (by omega) _ _ _ _ _
          have HMV : Hid (V.heap[w1.heap.size]? = some (.cells #[.int .i64 5, .int .i32 o, .string ⟨#[]⟩, .slice (some ⟨wz.heap.size, 0, none⟩) 2 2] 43 (0, 0))) := by rw [hV]; exact v_res HM9.out _ _ _ _ _
          have HXV : Hid (At V (fun b => w.heap.size < b ∧ b ≠ w1.heap.size) (bin o x y) (some ⟨wz.heap.size, 0, none⟩)) := by
            unfold RowKit.Hid bin
            rw [hV, at_eq]
            exact atL2 (v_row _ _ _ _ _) ⟨hz9, by omega⟩ (v_atk _ _ _ _ _ HX9.out (fun h => h.2 rfl)) (v_atk _ _ _ _ _ HY9.out (fun h => h.2 rfl))
          clear hV n0 n1 n2 n3 f0 f1 f2 f3 HK9 HZ9 HM9 HX9 HY9 hz9 hm9 HK HZ HM HX m0 m1 m2 m3
          obtain ⟨q0, q1, q2, q3, _⟩ := row4 HMV.out
          obtain ⟨k0, k1, k2, k3, f0, f1, f2, f3⟩ := row4 HZV.out
          go_wp2_with fail
      iterate 3
        · have hr := HRN.out
          subst hr
          exact ret_row 4 rfl rfl rfl (setrow4 HZV.out _ _ _ _) Try.underlying43 infoExS (gives_end (r := (bin o x y, s2)) HR.out HKV.out _ _ (HXV.out.base (fun b hb _ => hb.1)) _ _ _ _)
      all_goals
        clear q0 q1 q2 q3 k0 k1 k2 k3 f0 f1 f2 f3
        go_region_held3 (fun w' => True) (first | exact trivial | go_keep) (first | (go_at_call 113; refine (HMK.out _).mono ?_; rintro e wmq ⟨ccq, rfl, hst, hbm, hbl⟩; have HKmq := Lib.hid ((HKV.out.below (Below.refl _ _).drew).below hbm); have HZmq : Hid (wmq.heap[w.heap.size]? = some (.cells zrow 43 (0, 0))) := (hbm.block _ (Array.getElem?_eq_some_iff.1 HZV.out).1).trans HZV.out; have HMmq := Lib.hid ((hbm.block _ (Array.getElem?_eq_some_iff.1 HMV.out).1).trans HMV.out); have HXmq := Lib.hid ((HXV.out.below (Below.refl _ _).drew (Nat.le_refl _)).below hbm (Nat.le_refl _)); have HSTmq := Lib.hid hst; have hgmq : w.heap.size < V.drew.heap.size := (Array.getElem?_eq_some_iff.1 HZV.out).1; clear hst hbm hbl) | (go_at_call 112; refine (HAN.out _ s2 _ ccq (by simp only [World.drew] at *; omega) HKmq.out.1 HSTmq.out).mono ?_; rintro e waq ⟨rfl, hk⟩; have HKq := Lib.hid (HKmq.out.trans hk); have HZq := Lib.hid (hk.row HZmq.out (by omega)); have HMq := Lib.hid (hk.row HMmq.out (by omega)); have HXq := Lib.hid (HXmq.out.took hk (by omega)); clear hk))
        clear HKmq HZmq HMmq HXmq HSTmq HKV HZV HMV HXV
        have hat2 := HKq.out.1.atOf
        have HAT2 := Lib.hid hat2
        clear hat2
        go_wp2_with fail
        go_roundw
        case rel => exact ⟨bin o x y, s2, _, _, _, rfl, by have := HPS.out; rw [adv_at] at this; omega, ⟨HRN.out, rfl, HKq.out, HZq.out, HMq.out, HXq.out⟩⟩
        case measure =>
          rw [HAT2.out, HAT0.out, if_neg H0.out, markM_of, markM_of, if_neg HME.out]
          have hps := HPS.out
          have hl := HL.out.2
          rw [adv_at] at hps ⊢
          by_cases ho2 : among ts s2 (ops n) = 0
          · rw [ho2, if_pos rfl, if_pos (show opm 0 = [] from rfl)]; omega
          · have hl2 := (among_lt _ _ ho2).2
            rw [if_neg ho2, adv_at]
            split <;> omega
end Go.Proofs.Ytilkilffkjhhbaa
