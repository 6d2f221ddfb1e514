/-
  The instruction at a place of bytes: the function Read of the reference.
-/
import Derived.Test.YtefnmpococnepaaIsaD
namespace Go.Proofs.Ytefnmpococnepaa
open Go.RowKit Mem

set_option maxHeartbeats 4000000 in
theorem refsigned_lo (x : Int) (h0 : 0 ≤ x) (h1 : x < 2147483648) (w : World) :
    Calls Try.prog 34 #[.int .u32 x] w fun e w' => e = .returned (.int .i32 x) ∧ w = w' := by
  go_enter Try.func34, Try.ntmps34
  go_wp2_with fail
  go_ret
  first | exact ⟨rfl, rfl⟩ | (refine ⟨ret_int ?_, rfl⟩; unfold wrap32; omega)
set_option maxHeartbeats 4000000 in
theorem refsigned_hi (x : Int) (h0 : 2147483648 ≤ x) (h1 : x < 4294967296) (w : World) :
    Calls Try.prog 34 #[.int .u32 x] w fun e w' => e = .returned (.int .i32 (x - 4294967296)) ∧ w = w' := by
  go_enter Try.func34, Try.ntmps34
  go_wp2_with fail
  go_ret
  first | exact ⟨rfl, rfl⟩ | (refine ⟨ret_int ?_, rfl⟩; unfold wrap32; omega)
theorem refsigned (u : Nat) (h : u < 4294967296) (w : World) :
    Calls Try.prog 34 #[.int .u32 u] w fun e w' => e = .returned (.int .i32 (Ia.signedN u)) ∧ w = w' := by
  unfold Ia.signedN
  split
  · exact refsigned_lo u (by omega) (by omega) w
  · exact refsigned_hi u (by omega) (by omega) w
set_option maxHeartbeats 4000000 in
theorem refread_bad (bs : List UInt8) (A : Option Addr) (c : Nat) (a : Int) (w : World) 
    (h : a < 0 ∨ (bs.length : Int) ≤ a) :
    Calls Try.prog 12 #[.slice A bs.length c, .int .i64 a] w fun e w' => e = .returned (.tuple #[insAgg (readAt bs a).1, .int .i64 (readAt bs a).2.1, .int .i64 (readAt bs a).2.2]) ∧ Below w.heap.size w w' := by
  have hb : Below w.heap.size w (w.alloc (Obj.cells #[Value.int IntKind.i64 0, Value.int IntKind.i32 0] 25)) := (Below.refl _ _).alloc (Nat.le_refl _) _
  by_cases h1 : a < 0
  · have e : readAt bs a = (Ia.nil, 0, 1) := by unfold readAt; rw [if_pos (.inl h1)]
    rw [e]
    unfold insAgg Ia.nil
    go_enter Try.func12, Try.ntmps12
    go_wp2_with fail
    exact ret_ins 4 5 6 rfl rfl rfl rfl rfl (below_new (Below.refl _ _) 0).1 (below_new (Below.refl _ _) 1).1 ⟨rfl, hb⟩
  · by_cases h2 : (bs.length : Int) < a
    · have e : readAt bs a = (Ia.nil, 0, 1) := by unfold readAt; rw [if_pos (.inr h2)]
      rw [e]
      unfold insAgg Ia.nil
      go_enter Try.func12, Try.ntmps12
      go_wp2_with fail
      exact ret_ins 4 5 6 rfl rfl rfl rfl rfl (below_new (Below.refl _ _) 0).1 (below_new (Below.refl _ _) 1).1 ⟨rfl, hb⟩
    · obtain rfl : a = bs.length := by omega
      have e : readAt bs (bs.length : Int) = (Ia.nil, 0, 2) := by
        rw [readAt_of (Nat.le_refl _) (i := Ia.nil) (n := 0) (e := 2) (by rw [List.drop_length]; rfl)]; rfl
      rw [e]
      unfold insAgg Ia.nil
      go_enter Try.func12, Try.ntmps12
      go_wp2_with fail
      exact ret_ins 4 5 6 rfl rfl rfl rfl rfl (below_new (Below.refl _ _) 0).1 (below_new (Below.refl _ _) 1).1 ⟨rfl, hb⟩
set_option maxHeartbeats 4000000 in
theorem refread_in (bs : List UInt8) (A : Option Addr) (c : Nat) (p : Nat) (w : World) (hA : BytesAt w A bs) (hn : bs.length ≤ 4611686018427387904)
    (h : p < bs.length) :
    Calls Try.prog 12 #[.slice A bs.length c, .int .i64 p] w fun e w' => e = .returned (.tuple #[insAgg (readAt bs p).1, .int .i64 (readAt bs p).2.1, .int .i64 (readAt bs p).2.2]) ∧ Below w.heap.size w w' := by
  have HA := Lib.hid hA
  clear hA
  have hr := read_in bs p h
  have hcb : ((bs[p]'h).toNat : Int) ≤ 255 := by have := (bs[p]'h).toNat_lt; omega
  have hgr := get_rest bs p (Ia.form (bs[p]'h).toNat) h
  have hb : Below w.heap.size w (w.alloc (Obj.cells #[Value.int IntKind.i64 0, Value.int IntKind.i32 0] 25)) := (Below.refl _ _).alloc (Nat.le_refl _) _
  obtain ⟨bk, off, rfl, cl⟩ := HA.out.below hb (Nat.le_refl _) p h
  generalize hcc : (bs[p]'h).toNat = cc at *
  clear hcc
  by_cases h0 : Ia.form cc = 0
  · rw [if_pos h0] at hr
    rw [hr]
    have H0 := Lib.hid h0
    clear h0 hr hgr
    unfold insAgg Ia.nil
    go_enter Try.func12, Try.ntmps12
    go_wp2_with fail
    refine (refwidth _ _).mono ?_
    rintro e w1 ⟨rfl, rfl⟩
    rw [H0.out]
    go_wp2_with fail
    exact ret_ins 4 5 6 rfl rfl rfl rfl rfl (below_new (Below.refl _ _) 0).1 (below_new (Below.refl _ _) 1).1 ⟨rfl, hb⟩
  · rw [if_neg h0] at hr
    have hf := Ia.form_le cc
    replace hgr := hgr (by omega) (by omega)
    have H0 := Lib.hid h0
    have hw4 : Ia.form cc ≤ 4 := by omega
    have hw1 : 1 ≤ Ia.form cc := by omega
    have hz : ((Ia.form cc : Int) == 0) = false := by rw [beq_eq_false_iff_ne]; omega
    generalize hwd : Ia.form cc = wd at *
    have HW := Lib.hid hwd
    clear hwd h0 hf
    by_cases hs : (bs.drop (p + 1)).length < wd
    · rw [if_pos hs] at hr hgr
      rw [hr]
      have HG2 := Lib.hid hgr
      clear hr hgr
      unfold insAgg Ia.nil
      go_enter Try.func12, Try.ntmps12
      go_wp2_with fail
      refine (refwidth _ _).mono ?_
      rintro e w1 ⟨rfl, rfl⟩
      rw [HW.out]
      go_wp2_with fail
      refine (refget bs _ c ((p : Int) + 1) wd _ (HA.out.below hb (Nat.le_refl _)) hn (by omega) (by omega) (by omega) (by omega)).mono ?_
      rintro e w1 ⟨rfl, rfl⟩
      rw [HG2.out]
      go_wp2_with fail
      exact ret_ins 4 5 6 rfl rfl rfl rfl rfl (below_new (Below.refl _ _) 0).1 (below_new (Below.refl _ _) 1).1 ⟨rfl, hb⟩
    · rw [if_neg hs] at hr hgr
      have hU : Ia.unle ((bs.drop (p + 1)).take wd) < 256 ^ 4 := by
        refine Nat.lt_of_lt_of_le (Ia.unle_lt _) (Nat.pow_le_pow_right (by omega) ?_)
        rw [List.length_take]
        omega
      have HG2 := Lib.hid hgr
      generalize hu : Ia.unle ((bs.drop (p + 1)).take wd) = U at *
      clear hgr hu
      have hpl : p + 1 + wd ≤ bs.length := by rw [List.length_drop] at hs; omega
      clear hs
      by_cases h3 : Ia.right ⟨cc, Ia.signedN U⟩ ≠ 0
      · rw [if_pos h3] at hr
        rw [hr]
        have h3b : ((Ia.right ⟨cc, Ia.signedN U⟩) != 0) = true := by rw [bne_iff_ne]; exact h3
        generalize hrt : Ia.right ⟨cc, Ia.signedN U⟩ = rt at *
        have HRT := Lib.hid hrt
        clear hr h3 hrt
        unfold insAgg Ia.nil
        go_enter Try.func12, Try.ntmps12
        go_wp2_with fail
        refine (refwidth _ _).mono ?_
        rintro e w1 ⟨rfl, rfl⟩
        rw [HW.out]
        go_wp2_with fail
        refine (refget bs _ c ((p : Int) + 1) wd _ (HA.out.below hb (Nat.le_refl _)) hn (by omega) (by omega) (by omega) (by omega)).mono ?_
        rintro e w1 ⟨rfl, rfl⟩
        rw [HG2.out]
        go_wp2_with fail
        refine (refsigned U (by omega) _).mono ?_
        rintro e w1 ⟨rfl, rfl⟩
        go_wp2_with fail
        refine (refright ⟨cc, Ia.signedN U⟩ _).mono ?_
        rintro e w1 ⟨rfl, hb1⟩
        rw [HRT.out]
        obtain ⟨k0, k1, k2, k3, f0, f1, f2, f3, hz1, hb1⟩ := two_new hb1
        have HB1 := Lib.hid hb1
        clear hb1
        go_wp2_with fail
        obtain ⟨e0, e1⟩ := set2 (.int .i64 0) (.int .i32 0) k0 k1
        exact ret_ins 4 5 6 rfl rfl rfl rfl rfl e0 e1 ⟨rfl, (HB1.out.setCell (Nat.le_refl _) _).setCell (Nat.le_refl _) _⟩
      · rw [if_neg h3] at hr
        rw [hr]
        have hrt : Ia.right ⟨cc, Ia.signedN U⟩ = 0 := by omega
        have HRT := Lib.hid hrt
        clear hr h3 hrt
        unfold insAgg
        go_enter Try.func12, Try.ntmps12
        go_wp2_with fail
        refine (refwidth _ _).mono ?_
        rintro e w1 ⟨rfl, rfl⟩
        rw [HW.out]
        go_wp2_with fail
        refine (refget bs _ c ((p : Int) + 1) wd _ (HA.out.below hb (Nat.le_refl _)) hn (by omega) (by omega) (by omega) (by omega)).mono ?_
        rintro e w1 ⟨rfl, rfl⟩
        rw [HG2.out]
        go_wp2_with fail
        refine (refsigned U (by omega) _).mono ?_
        rintro e w1 ⟨rfl, rfl⟩
        go_wp2_with fail
        refine (refright ⟨cc, Ia.signedN U⟩ _).mono ?_
        rintro e w1 ⟨rfl, hb1⟩
        rw [HRT.out]
        obtain ⟨k0, k1, k2, k3, f0, f1, f2, f3, hz1, hb1⟩ := two_new hb1
        have HB1 := Lib.hid hb1
        clear hb1
        go_wp2_with fail
        obtain ⟨e0, e1⟩ := set2 (.int .i64 cc) (.int .i32 (Ia.signedN U)) k0 k1
        exact ret_ins 4 5 6 rfl rfl rfl rfl rfl e0 e1 ⟨rfl, (HB1.out.setCell (Nat.le_refl _) _).setCell (Nat.le_refl _) _⟩
/-- the instruction at any place -/
theorem refread (bs : List UInt8) (A : Option Addr) (c : Nat) (a : Int) (w : World) (hA : BytesAt w A bs) (hn : bs.length ≤ 4611686018427387904) (ha1 : -9223372036854775808 ≤ a) (ha2 : a ≤ 9223372036854775807) :
    Calls Try.prog 12 #[.slice A bs.length c, .int .i64 a] w fun e w' => e = .returned (.tuple #[insAgg (readAt bs a).1, .int .i64 (readAt bs a).2.1, .int .i64 (readAt bs a).2.2]) ∧ Below w.heap.size w w' := by
  by_cases h : a < 0 ∨ (bs.length : Int) ≤ a
  · exact refread_bad bs A c a w h
  · obtain ⟨p, rfl⟩ := Int.eq_ofNat_of_zero_le (show 0 ≤ a by omega)
    exact refread_in bs A c p w hA hn (by omega)
end Go.Proofs.Ytefnmpococnepaa
