/-
  An expression that is written, and stands in brackets, is read as it was: the walk.
-/
import Derived.Test.YtilkilffkjhhbaaTrK
import Derived.Test.YtilkilffkjhhbaaTrL3
import Derived.Test.YtilkilffkjhhbaaTrShow
import Derived.Test.YtilkilffkjhhbaaTrPb
import Derived.Test.YtilkilffkjhhbaaTrB
import Derived.Test.YtilkilffkjhhbaaTrA
namespace Go.Proofs.Ytilkilffkjhhbaa
set_option maxRecDepth 20000
set_option linter.unusedVariables false
open Go.RowKit Tr Mem

theorem wfu8_ {a : Int} (h : (Lit.int .u8 a).wf = true) : 0 ≤ a ∧ a ≤ 255 := by
  have h2 := (Lit.wf_int_iff _ _).1 h
  have e1 : IntKind.u8.min = 0 := by decide
  have e2 : IntKind.u8.max = 255 := by decide
  rw [e1, e2] at h2
  omega
set_option maxRecDepth 100000 in
set_option maxHeartbeats 8000000 in
theorem treeBrackets_walk (w : World) (x : Ex) (A : Option Addr) (c : Nat) (hw : At w (fun _ => True) x A ∧ Fit x) (nb : Int) (wn : (Lit.int .u8 nb).wf = true) :
    Calls Try.prog 9 #[exAgg x A c, .int .u8 nb] w fun e w' => e = .returned (.bool true) ∧ Below w.heap.size w w' := by
  obtain ⟨hA, hfit⟩ := hw
  have hnb := wfu8_ wn
  clear wn
  have HK := Lib.hid (fun W => known_any W)
  have HA := Lib.hid hA
  have HW0 : Hid (∀ V, Below w.heap.size w (w.alloc V)) := fun V => (Below.refl _ _).alloc (Nat.le_refl _) V
  have HPT := Lib.hid (fun W h => refparts_any (fun _ => True) 400 x 400 (Nat.le_refl _) (by decide) (by decide) A c W h hfit)
  have HS1 := Lib.hid (fun W h => tshow_any x (fun _ => True) A c W h hfit)
  have HFIT := Lib.hid hfit
  obtain ⟨mn, hmn⟩ : ∃ m, m = min (size x) 400 := ⟨_, rfl⟩
  rw [← hmn] at HPT
  clear hmn hA hfit
  by_cases hge : 400 ≤ mn
  · unfold exAgg at *
    clear HS1
    go_enter Try.func9, Try.ntmps9
    go_wp2_with fail
    refine (HPT.out _ (HA.out.below (HW0.out _) (Nat.le_refl _))).mono ?_
    rintro e w1 ⟨rfl, hb1⟩
    have HB1 := Lib.hid ((HW0.out (.cells #[.int .i64 x.kind, .int .i32 x.n, .string ⟨x.name.toArray⟩, .slice A x.sub.length c] 43)).trans (hb1.mono (by simp)))
    clear hb1
    go_wp2_with fail
    refine (HK.out _).mono ?_
    rintro e w2 ⟨rfl, hb2⟩
    have HB2 := Lib.hid (HB1.out.trans (hb2.mono HB1.out.size))
    clear hb2
    go_wp2_with fail
    go_ret
    exact ⟨rfl, HB2.out⟩
  by_cases h0 : right x = 0
  rotate_left
  · have hne : (right x != 0) = true := by simpa using h0
    have hs : showT x = ([], right x) := by unfold showT; rw [if_neg h0]
    rw [hs] at HS1
    generalize right x = q at *
    unfold exAgg at *
    clear h0 hs
    go_enter Try.func9, Try.ntmps9
    go_wp2_with fail
    refine (HPT.out _ (HA.out.below (HW0.out _) (Nat.le_refl _))).mono ?_
    rintro e w1 ⟨rfl, hb1⟩
    have hb2 := (HW0.out (.cells #[.int .i64 x.kind, .int .i32 x.n, .string ⟨x.name.toArray⟩, .slice A x.sub.length c] 43)).trans (hb1.mono (by simp))
    have HB1 := Lib.hid hb2
    have HA1 := Lib.hid (HA.out.below hb2 (Nat.le_refl _))
    obtain ⟨k0, k1, k2, k3, -⟩ := row4 (row4_of hb1)
    clear hb1 hb2
    go_wp2_with fail
    refine (HS1.out _ HA1.out).mono ?_
    rintro e w2 ⟨rfl, hb2⟩
    have HB2 := Lib.hid (HB1.out.trans (hb2.mono HB1.out.size))
    clear hb2
    go_wp2_with fail
    refine (HK.out _).mono ?_
    rintro e w3 ⟨rfl, hb3⟩
    have HB3 := Lib.hid (HB2.out.trans (hb3.mono HB2.out.size))
    clear hb3
    go_wp2_with fail
    go_ret
    exact ⟨rfl, HB3.out⟩
  · have hs : showT x = (text x, 0) := by unfold showT; rw [if_pos h0]
    rw [hs] at HS1
    have htl := text_len x (right_zero h0).2.2
    have hsz := (right_zero h0).1
    have hbk := brackets (right_zero h0).2.2
    have hbl := brk_len (text x)
    have htl2 : (text x).length ≤ 4000 := by omega
    obtain ⟨m, hm⟩ : ∃ m : Nat, nb % 5 = (m : Int) := ⟨(nb % 5).toNat, by omega⟩
    have hm4 : m ≤ 4 := by omega
    have HBK := Lib.hid (hbk m)
    have HLX := Lib.hid (fun h W => lexscan (brk m (text x)) h W)
    unfold ScanGives at HLX
    have hln := scan_len (brk m (text x))
    have HSAME := Lib.hid (fun K B d W h1 h2 => refSameExpr_any (fun _ => True) K (size x) x x (Nat.le_refl _) A B c d W h1 h2 HFIT.out HFIT.out)
    rw [same_refl] at HSAME
    obtain ⟨b0, hb0⟩ : ∃ b : Nat → Lx.Bs, b = fun k => brk k (text x) := ⟨_, rfl⟩
    have hbz : text x = b0 0 := by rw [hb0]; rfl
    have hbs : ∀ k, b0 (k + 1) = [40] ++ b0 k ++ [41] := fun k => by rw [hb0]; rfl
    have hbl' : ∀ k, (b0 k).length ≤ 4000 + 2 * k := fun k => by rw [hb0]; simp only [hbl]; omega
    have hbm : brk m (text x) = b0 m := by rw [hb0]
    rw [hbm] at HBK HLX hln
    have HBM := Lib.hid hbl'
    have HBS := Lib.hid hbs
    have hl0 := hbl' 0
    rw [← hbz] at hl0
    have HBZ := Lib.hid hbz
    clear hs htl hbk hbl h0 hb0 hbm hbz hbs hbl'
    generalize text x = t0 at *
    unfold exAgg at *
    go_enter Try.func9, Try.ntmps9
    go_wp2_with fail
    refine (HPT.out _ (HA.out.below (HW0.out _) (Nat.le_refl _))).mono ?_
    rintro e w1 ⟨rfl, hb1⟩
    have hb2 := (HW0.out (.cells #[.int .i64 x.kind, .int .i32 x.n, .string ⟨x.name.toArray⟩, .slice A x.sub.length c] 43)).trans (hb1.mono (by simp))
    have HB1 := Lib.hid hb2
    have HA1 := Lib.hid (HA.out.below hb2 (Nat.le_refl _))
    have HX1 := Lib.hid (row4_of hb1)
    have hs1 : w.heap.size < w1.heap.size := Nat.lt_of_lt_of_le (by simp) hb1.size
    obtain ⟨k0, k1, k2, k3, -⟩ := row4 HX1.out
    clear hb1 hb2
    go_wp2_with fail
    refine (HS1.out _ HA1.out).mono ?_
    rintro e w2 ⟨rfl, hb2⟩
    have HX2 := Lib.hid ((hb2.block _ hs1).trans HX1.out)
    have HB2 := Lib.hid (HB1.out.trans (hb2.mono HB1.out.size))
    have HA2 := Lib.hid (HA1.out.below hb2 (Nat.le_refl _))
    have hs2 : w.heap.size < w2.heap.size := Nat.lt_of_lt_of_le hs1 hb2.size
    clear hb2 k0 k1 k2 k3
    go_wp2_with fail
    go_loopw [5, 7] (fun v i wr => ∃ (j : Nat) (d : Lx.Bs), j ≤ m ∧ i = .int .i64 j ∧ v = .string ⟨d.toArray⟩ ∧ d.length ≤ 4000 + 2 * j ∧ Hid (d = b0 j) ∧ Hid (w2 = wr)) (fun _ i _ => m - (intOf i).toNat)
    case atStart => exact ⟨0, t0, Nat.zero_le _, rfl, rfl, by omega, HBZ.out, rfl⟩
    case round =>
      obtain ⟨j, d, hj, rfl, rfl, hd4, HD, HWR⟩ := hrel
      have hwr := HWR.out
      subst hwr
      by_cases hlt : j < m
      · have hlt2 : (j : Int) < nb % 5 := by omega
        have hl1 := HBM.out (j + 1)
        rw [HBS.out, ← HD.out] at hl1
        have hl2 : d.length + 2 ≤ 4000 + 2 * (j + 1) := by simp at hl1; omega
        clear hl1
        rw [hm] at hlt2
        go_wp2_with fail
        go_roundw
        case rel => exact ⟨j + 1, [40] ++ d ++ [41], by omega, by go_num, str3 [40] d [41] _ rfl, by simp; omega, by unfold RowKit.Hid; rw [HBS.out, HD.out], by first | rfl | exact trivial⟩
        case measure => simp [intOf]; omega
      · have hjm : m = j := by omega
        subst hjm
        have hlt2 : ¬ ((m : Int) < nb % 5) := by omega
        have hdd := HD.out
        subst hdd
        rw [hm] at hlt2
        by_cases hbig : 4096 < (b0 m).length
        · exfalso; omega
        · obtain ⟨hsc, hpx⟩ := HBK.out (by omega)
          have HPX := Lib.hid hpx
          have hmx : (b0 m).length ≤ maxLen := by unfold maxLen; omega
          have HLY := Lib.hid (fun W => HLX.out hmx W)
          clear hpx HLX HBK HBM HBS HBZ hmx
          generalize b0 m = tx at *
          generalize Lx.scan tx = sc at *
          obtain ⟨ts, se, sp⟩ := sc
          dsimp only at *
          subst hsc
          have hex : exprT ts 0 tx.length = (x, (ts.length : Int), 0, 0) := by
            unfold exprT
            have h := HPX.out
            unfold Tr.S at h
            rw [if_neg (by omega), show (0 : Int).toNat = 0 from rfl, h, if_neg (by simp)]
          have HEX := Lib.hid hex
          clear hex HPX
          go_wp2_with fail
          refine (HLY.out _).mono ?_
          rintro e w3 ⟨v, rfl, ho, hb3⟩
          obtain ⟨A3, c3, rfl⟩ := own_slice ho
          have HO := Lib.hid ho
          have HX3 := Lib.hid ((hb3.block _ hs2).trans HX2.out)
          have HA3 := Lib.hid (HA2.out.below hb3 (Nat.le_refl _))
          have HB3 := Lib.hid (HB2.out.trans (hb3.mono HB2.out.size))
          have hs3 : w.heap.size < w3.heap.size := Nat.lt_of_lt_of_le hs2 hb3.size
          clear ho hb3 HB2 HA2 HX2
          go_wp2_with fail
          have hex2 := texpr A3 c3 ts 0 tx.length w3 (TokAt.of_own HO.out) hln (fun b o q e => by subst e; exact (HO.out.lt b rfl).2)
          rw [HEX.out] at hex2
          refine hex2.mono ?_
          rintro e w4 ⟨A4, c4, rfl, hat, hb4⟩
          have HAT := Lib.hid hat
          have HX4 := Lib.hid ((hb4.block _ hs3).trans HX3.out)
          have HA4 := Lib.hid (HA3.out.below hb4 (Nat.le_refl _))
          have HB4 := Lib.hid (HB3.out.trans (hb4.mono HB3.out.size))
          have hs4 : w.heap.size < w4.heap.size := Nat.lt_of_lt_of_le hs3 hb4.size
          clear hat hb4 hex2 HO HX3 HA3 HB3
          unfold exAgg
          dsimp only
          go_upto_region 14 with (fail)
          obtain ⟨W5, hW5⟩ : ∃ W, W = w4.alloc (.cells #[.int .i64 x.kind, .int .i32 x.n, .string ⟨x.name.toArray⟩, .slice A4 x.sub.length c4] 43) := ⟨_, rfl⟩
          rw [← hW5]
          have hb5 : Below w4.heap.size w4 W5 := by rw [hW5]; exact (Below.refl _ _).alloc (Nat.le_refl _) _
          have hr5 : W5.heap[w4.heap.size]? = some (.cells #[.int .i64 x.kind, .int .i32 x.n, .string ⟨x.name.toArray⟩, .slice A4 x.sub.length c4] 43 (0, 0)) := by rw [hW5]; exact heap_alloc_new _ _
          have hx5 := (hb5.block _ hs4).trans HX4.out
          have HB5 := Lib.hid (HB4.out.trans (hb5.mono HB4.out.size))
          have HC := Lib.hid (HSAME.out _ A4 c4 _ (HA4.out.below hb5 (Nat.le_refl _)) (HAT.out.below hb5 (Nat.le_refl _)))
          clear hW5 hb5 HX4 HA4 HB4 HAT
          obtain ⟨k0, k1, k2, k3, -⟩ := row4 hx5
          obtain ⟨q0, q1, q2, q3, -⟩ := row4 hr5
          clear hx5 hr5
          go_wp2_with fail
          refine HC.out.mono ?_
          rintro e w6 ⟨rfl, hb6⟩
          have HB6 := Lib.hid (HB5.out.trans (hb6.mono HB5.out.size))
          clear hb6
          go_wp2_with fail
          refine (HK.out _).mono ?_
          rintro e w7 ⟨rfl, hb7⟩
          have HB7 := Lib.hid (HB6.out.trans (hb7.mono HB6.out.size))
          clear hb7
          go_wp2_with fail
          go_ret
          exact ⟨rfl, HB7.out⟩
end Go.Proofs.Ytilkilffkjhhbaa
