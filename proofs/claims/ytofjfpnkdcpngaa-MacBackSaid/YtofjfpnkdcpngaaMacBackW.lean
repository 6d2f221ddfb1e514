/-
  The walk of the law MacBack: what is sealed is opened as it was.
-/
import Derived.Test.YtofjfpnkdcpngaaMacZ
namespace Go.Proofs.Ytofjfpnkdcpngaa
open Go.RowKit Mem

set_option maxRecDepth 100000 in
set_option maxHeartbeats 4000000 in
theorem macBack_walk (w : World) (A : Option Addr) (c : Nat) (k : List UInt8) (hA : BArg w A c k) (A' : Option Addr) (c' : Nat) (b : List UInt8) (hA' : BArg w A' c' b) :
    Calls Try.prog 8 #[.slice A k.length c, .slice A' b.length c'] w fun e w' => e = .returned (.bool true) ∧ Below w.heap.size w w' := by
  obtain ⟨hA1, hA2, hA3⟩ := hA
  obtain ⟨hM1, hM2, hM3⟩ := hA'
  by_cases h1 : k.length ≤ 16384
  · by_cases h2 : b.length ≤ 16384
    · have HA := Lib.hid hA1
      have HM := Lib.hid hM1
      have HMB := Lib.hid (BSrc.at_ hM1)
      have HSE := Lib.hid (macseal k b A A' c c' w hA1 hA2 (by omega) (by omega) hM1 (by omega))
      have HL := Lib.hid (tagOf_len k b)
      have HOP := Lib.hid (fun (W : World) (h : Below w.heap.size w W) (A2 : Option Addr) (c2 : Nat) (hs : BSrc W A2 c2 (b ++ tagOf k b)) (hc : (b ++ tagOf k b).length ≤ c2) => by
        have hl := tagOf_len k b
        have := macopen k (b ++ tagOf k b) A A2 c c2 W (hA1.below h (Nat.le_refl _)) hA2 (by omega) (by omega) hs (by rw [List.length_append]; omega) hc b.length (by rw [List.length_append, hl])
        rw [List.drop_left, List.take_left, List.length_append, hl, beq_self_eq_true] at this
        exact this)
      have HRI := Lib.hid (fun (W : World) (h : Below w.heap.size w W) (A2 : Option Addr) (c2 : Nat) (hs : BSrc W A2 c2 (tagOf k b)) => by
        have hl := tagOf_len k b
        have := macright k b (tagOf k b) A A' A2 c c' c2 W (hA1.below h (Nat.le_refl _)) hA2 (by omega) (by omega) (hM1.below h (Nat.le_refl _)) (by omega) hs (by rw [hl]; decide)
        rw [hl, beq_self_eq_true] at this
        exact this)
      have HAPP : Hid ((b ++ tagOf k b).length = b.length + 32) := by unfold RowKit.Hid; rw [List.length_append, tagOf_len]
      have HDR : Hid (((b ++ tagOf k b).take (b.length + 32)).drop b.length = tagOf k b) := by
        unfold RowKit.Hid
        rw [List.take_of_length_le (by rw [List.length_append, tagOf_len]; exact Nat.le_refl _), List.drop_left]
      generalize tagOf k b = T at *
      generalize b ++ T = fin at *
      clear hA1 hM1
      go_enter Try.func8, Try.ntmps8
      go_wp2_with fail
      refine HSE.out.mono ?_
      rintro e w1 ⟨v, rfl, how, hb1⟩
      obtain ⟨A2, c2, rfl⟩ := own_slice how
      have hcap : b.length + 32 ≤ c2 ∧ c2 ≤ 9223372036854775807 := by
        rcases how.2 with ⟨hv, h0⟩ | ⟨g, cap, cur, hv, _, _, hn', hc', _⟩
        · injection hv with _ h1 h2; omega
        · injection hv with _ h1 h2; unfold maxLen at hc'; omega
      have HS1 : Hid (BSrc w1 A2 c2 fin) := by unfold RowKit.Hid BSrc; rw [HAPP.out]; exact Src.of_own how
      have HB1 := Lib.hid hb1
      clear hb1 how HSE
      have HCUT := Lib.hid (fun (W : World) (h : BSrc W A2 c2 fin) => h.cut b.length (b.length + 32) c2 (by omega) (by rw [HAPP.out]; exact Nat.le_refl _) (by rw [HAPP.out]; omega))
      go_wp2_with fail
      have hop1 := HOP.out w1 HB1.out A2 c2 HS1.out (by rw [HAPP.out]; exact hcap.1)
      refine hop1.mono ?_
      rintro e w2 ⟨hop, hb2⟩
      unfold Opened at hop
      dsimp only at hop
      obtain ⟨v, rfl, how⟩ := hop
      obtain ⟨A5, c5, rfl⟩ := own_slice how
      have HB2 := Lib.hid (HB1.out.trans (hb2.mono HB1.out.size))
      have HS2 := Lib.hid (HS1.out.below hb2 (Nat.le_refl _))
      obtain ⟨A6, hs6, hb6⟩ := HCUT.out w2 HS2.out
      have HB6 := Lib.hid hb6
      rw [HDR.out] at HB6
      have e32 : b.length + 32 - b.length = 32 := by omega
      have rf : ∀ wx, (Instr.slice 22 (.slice A2 (b.length + 32) c2) (some (.int .i64 (b.length : Int))) none none).run Try.prog wx = .ok (.slice A6 32 (c2 - b.length)) wx := fun wx => by
        rw [run_slice_l (P := Try.prog) wx _ A2 (b.length + 32) c2 (by kernel_rfl) _ _ (by omega) (by omega), size_u8]
        simp only [Result.andThen, Int.toNat_natCast, hs6, e32]
      have hcv1 : ∀ W', Below w2.heap.size w2 W' → (convert 22 9 (.slice A5 b.length c5)).run Try.prog W' = .ok (.string ⟨b.toArray⟩) W' := fun W' h => conv_bytes W' A5 c5 b ((BytesAt.of_own how).below h (Nat.le_refl _))
      have hcv2 : ∀ W', Below w2.heap.size w2 W' → (convert 22 9 (.slice A' b.length c')).run Try.prog W' = .ok (.string ⟨b.toArray⟩) W' := fun W' h => conv_bytes W' A' c' b (HMB.out.below (HB2.out.trans (h.mono HB2.out.size)) (Nat.le_refl _))
      have r1 := hcv1 w2 (Below.refl _ _)
      have r2 := hcv2 w2 (Below.refl _ _)
      have HC1 := Lib.hid hcap.1
      clear hb2 how hs6 hb6 hop1 hcv1 hcv2 e32 hcap
      go_wp2_with fail
      refine (HRI.out _ HB2.out A6 (c2 - b.length) (HB6.out (by rw [HAPP.out]; exact HC1.out))).mono ?_
      rintro e w3 ⟨rfl, hb3⟩
      have HB3 := Lib.hid (HB2.out.trans (hb3.mono HB2.out.size))
      clear hb3
      go_wp2_with fail
      refine (known_any _).mono ?_
      rintro e w8 ⟨rfl, hb8⟩
      have HB8 := Lib.hid (HB3.out.trans (hb8.mono HB3.out.size))
      clear hb8
      go_wp2_with fail
      go_ret
      exact ⟨rfl, HB8.out⟩
    · go_enter Try.func8, Try.ntmps8
      go_wp2_with fail
      refine (known_any _).mono ?_
      rintro e w8 ⟨rfl, hb8⟩
      go_wp2_with fail
      go_ret
      exact ⟨rfl, hb8⟩
  · go_enter Try.func8, Try.ntmps8
    go_wp2_with fail
    refine (known_any _).mono ?_
    rintro e w8 ⟨rfl, hb8⟩
    go_wp2_with fail
    go_ret
    exact ⟨rfl, hb8⟩
end Go.Proofs.Ytofjfpnkdcpngaa
