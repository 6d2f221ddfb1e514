/-
  What stands behind bytes, by the reference.
-/
import Derived.Test.YtofjfpnkdcpngaaShaP
namespace Go.Proofs.Ytofjfpnkdcpngaa
open Go.RowKit Mem

theorem shapad_bad (n : Int) (w : World) (hn : n < 0 ∨ 1152921504606846976 < n) :
    Calls Try.prog 28 #[.int .i64 n] w fun e w' => e = .returned (.tuple #[.slice none 0 0, .int .i64 1]) ∧ w = w' := by
  by_cases h : n < 0
  · clear hn
    go_enter Try.func28, Try.ntmps28
    go_wp2_with fail
    go_ret2
    exact ⟨rfl, rfl⟩
  · have h2 : 1152921504606846976 < n := by omega
    clear hn
    go_enter Try.func28, Try.ntmps28
    go_wp2_with fail
    go_ret2
    exact ⟨rfl, rfl⟩
theorem refpad_bad (n : Int) (w : World) (hn : n < 0 ∨ 1152921504606846976 < n) :
    Calls Try.prog 31 #[.int .i64 n] w fun e w' => e = .returned (.tuple #[.slice none 0 0, .int .i64 1]) ∧ w = w' := by
  by_cases h : n < 0
  · clear hn
    go_enter Try.func31, Try.ntmps31
    go_wp2_with fail
    go_ret2
    exact ⟨rfl, rfl⟩
  · have h2 : 1152921504606846976 < n := by omega
    clear hn
    go_enter Try.func31, Try.ntmps31
    go_wp2_with fail
    go_ret2
    exact ⟨rfl, rfl⟩
def sliceLen : Value → Nat
  | .slice _ l _ => l
  | _ => 0
def le8 (m k : Nat) : List UInt8 := (List.range k).map fun j => UInt8.ofNat (m / 256 ^ j % 256)
theorem le8_len (m k : Nat) : (le8 m k).length = k := by simp [le8]
theorem le8_succ (m k : Nat) : le8 m (k + 1) = le8 m k ++ [UInt8.ofNat (m / 256 ^ k % 256)] := by simp [le8, List.range_succ]
theorem le8_at (m k j : Nat) (h : j < (le8 m k).length) : (le8 m k)[j]'h = UInt8.ofNat (m / 256 ^ j % 256) := by simp [le8]
theorem be8_take (m j : Nat) (h : j < 8) : (be8 m).take (j + 1) = (be8 m).take j ++ [UInt8.ofNat (m / 256 ^ (7 - j) % 256)] := by
  have hju : j < (be8 m).length := by rw [be8_len]; exact h
  rw [List.take_succ_eq_append_getElem hju, be8_at]
  have e : (256 : Nat) ^ (7 - j) = 2 ^ (56 - 8 * j) := by rw [show (256 : Nat) = 2 ^ 8 from rfl, ← Nat.pow_mul]; congr 1; omega
  rw [e]
set_option maxRecDepth 100000 in
set_option maxHeartbeats 4000000 in
theorem refpad_ok (n : Nat) (w : World) (hn : n ≤ 1152921504606846976) :
    Calls Try.prog 31 #[.int .i64 n] w fun e w' => ∃ v, e = .returned (.tuple #[v, .int .i64 0]) ∧ w'.ownsRow w.heap.size 5 1 v (padOf n).length (bcells (padOf n)) ∧ Below w.heap.size w w' := by
  obtain ⟨i0, hi, hi0, hi1, hi2⟩ := info_parts infoByte
  have b0 : (0 : Int) ≤ n := by omega
  have b1 : (n : Int) ≤ 1152921504606846976 := by omega
  have HN := Lib.hid hn
  clear hn
  go_enter Try.func31, Try.ntmps31
  go_wp2_with fail
  have hst : (w.alloc (Obj.cells #[Value.int IntKind.u8 128] 5)).ownsRow w.heap.size 5 1 (.slice (some ⟨w.heap.size, 0, none⟩) 1 1) (0 + 1) (bcells (128 :: List.replicate 0 0)) :=
    ⟨rfl, .inr ⟨w.heap.size, 1, _, rfl, Nat.le_refl _, heap_alloc_new _ _, by omega, by unfold maxLen; omega, rfl, rfl⟩⟩
  have HST := Lib.hid hst
  have HBB : Hid (Below w.heap.size w (w.alloc (Obj.cells #[Value.int IntKind.u8 128] 5))) := (Below.refl _ _).alloc (Nat.le_refl _) _
  clear hst
  go_loopw [4] (fun v wr => ∃ (z : Nat) (g cap : Nat), z ≤ zeros n ∧ v = .slice (some ⟨g, 0, none⟩) (z + 1) cap ∧ Hid (wr.ownsRow w.heap.size 5 1 (.slice (some ⟨g, 0, none⟩) (z + 1) cap) (z + 1) (bcells (128 :: List.replicate z 0))) ∧ Hid (Below w.heap.size w wr)) (fun v _ => zeros n + 1 - sliceLen v)
  case atStart => exact ⟨0, _, _, Nat.zero_le _, rfl, HST, HBB⟩
  case round =>
    obtain ⟨z, g, cap, hz, rfl, hO, hB⟩ := hrel
    have hbz := hB.out.size
    have hzb : z ≤ 63 := by unfold zeros at hz; omega
    by_cases hlt : z < zeros n
    · have hne : (((n : Int) % 64 + ((z : Int) + 1)) % 64 != 56) = true := by rw [bne_iff_ne]; unfold zeros at hlt; omega
      have HZL := Lib.hid hlt
      go_wp2_with ((at_builtin; refine wpList_append_own _ rfl _ _ 22 rfl w.heap.size 5 i0 (.int .u8 0) 1 1 Try.underlying22 hi hi0 hi1 hi2 rfl (by decide) _ _ _ rfl (hO.out.alloc _) ⟨wr.heap.size, 0, none⟩ 1 1 [.int .u8 (0)] rfl rfl ?k1 ?k2 ?k3 ?k4 ?k5 ?_))
      case k1 => exact cells_new _ _ _ _ rfl
      case k2 => intro u hu; rw [List.mem_singleton] at hu; subst hu; rfl
      case k3 => unfold maxLen; omega
      case k4 => omega
      case k5 => simp; omega
      intro v' w3 hown3 hgrow _
      have HB3 : Hid (Below w.heap.size w w3) := (hB.out.alloc hbz _).grown hgrow (by simp; omega) (fun b hb => (hO.out.lt b hb).1)
      obtain ⟨g3, cap3, rfl, _, _⟩ := hown3.form (by omega)
      have HO3 : Hid (w3.ownsRow w.heap.size 5 1 (.slice (some ⟨g3, 0, none⟩) (z + 1 + 1) cap3) (z + 1 + 1) (bcells (128 :: List.replicate (z + 1) 0))) := by
        unfold RowKit.Hid
        rw [List.replicate_succ', ← List.cons_append, bcells_append]
        exact hown3
      clear hown3 hgrow hne
      go_wp2_with fail
      go_roundw
      case rel => exact ⟨z + 1, g3, cap3, by omega, rfl, HO3, HB3⟩
      case measure => simp [sliceLen]; omega
    · obtain rfl : z = zeros n := by omega
      have hne : (((n : Int) % 64 + (((zeros n : Nat) : Int) + 1)) % 64 != 56) = false := by rw [bne_eq_false_iff_eq]; unfold zeros; omega
      have HZB := Lib.hid hzb
      clear hlt hz
      generalize hzn : zeros n = zn at *
      have HZN := Lib.hid hzn
      clear hzn
      have hne2 : (((n : Int) + ((zn : Int) + 1)) % 64 != 56) = false := by rw [bne_eq_false_iff_eq] at hne ⊢; omega
      have HNE := Lib.hid hne2
      have HNB := Lib.hid hne
      go_wp2_with fail
      rw [show ((n : Int) % 64 + ((zn : Int) + 1)) % 64 = ((n : Int) + ((zn : Int) + 1)) % 64 by omega]
      first | rw [HNE.out] | skip
      clear hne hne2
      obtain ⟨wL, rfl⟩ : ∃ wL : World, wL = wr := ⟨_, rfl⟩
      have HM : Hid (n * 8 ≤ 9223372036854775808) := by have := HN.out; unfold RowKit.Hid; omega
      rw [show (n : Int) * 8 = ((n * 8 : Nat) : Int) by simp]
      generalize hm8 : n * 8 = m at *
      have HM8 := Lib.hid hm8
      clear hm8
      obtain ⟨gH, hgb, hgl⟩ : ∃ x : Nat, x = g ∧ g < wL.heap.size := ⟨g, rfl, (hO.out.lt g rfl).2⟩
      clear hgb
      go_loopw [5, 6, 7] (fun q l i wq => ∃ k : Nat, k ≤ 8 ∧ i = .int .i64 k ∧ q = .int .u64 ((m / 256 ^ k : Nat) : Int) ∧ Hid (wq.ownsRow wL.heap.size 5 1 l k (bcells (le8 m k))) ∧ Hid (Below wL.heap.size wL wq)) (fun _ _ i _ => 8 - (intOf i).toNat)
      case atStart => exact ⟨0, by omega, rfl, by simp, World.ownsRow_nil _ _ _ _, Below.refl _ _⟩
      case round =>
        obtain ⟨k, hk, rfl, rfl, hOl, hBl⟩ := hrel
        have hblz := hBl.out.size
        by_cases hlt : k < 8
        · have HL := Lib.hid (le8_succ m k)
          have hdv : m / 256 ^ k ≤ m := Nat.div_le_self _ _
          have HS := Lib.hid (show m / 256 ^ (k + 1) = m / 256 ^ k / 256 by rw [Nat.pow_succ, Nat.div_div_eq_div_mul])
          have HM2 := HM.out
          generalize m / 256 ^ k = q at *
          have q0 : (0 : Int) ≤ q := by omega
          have q1 : (q : Int) ≤ 9223372036854775808 := by omega
          have HU : Hid ((q : Int) % 256 = ((UInt8.ofNat (q % 256)).toNat : Int)) := by unfold RowKit.Hid; rw [UInt8.toNat_ofNat']; omega
          clear hdv HM2
          go_wp2_with ((at_builtin; refine wpList_append_own _ rfl _ _ 22 rfl wL.heap.size 5 i0 (.int .u8 0) 1 1 Try.underlying22 hi hi0 hi1 hi2 rfl (by decide) _ _ _ rfl (hOl.out.alloc _) ⟨wr.heap.size, 0, none⟩ 1 1 [.int .u8 ((q : Int) % 256)] rfl rfl ?m1 ?m2 ?m3 ?m4 ?m5 ?_))
          case m1 => exact cells_new _ _ _ _ rfl
          case m2 => intro u hu; rw [List.mem_singleton] at hu; subst hu; rfl
          case m3 => unfold maxLen; omega
          case m4 => omega
          case m5 => simp; omega
          intro v' w3 hown3 hgrow _
          have HB3 : Hid (Below wL.heap.size wL w3) := (hBl.out.alloc hblz _).grown hgrow (by simp; omega) (fun b hb => (hOl.out.lt b hb).1)
          have HO3 : Hid (w3.ownsRow wL.heap.size 5 1 v' (k + 1) (bcells (le8 m (k + 1)))) := by
            unfold RowKit.Hid
            rw [HL.out, bcells_append]
            have e : bcells [UInt8.ofNat (q % 256)] = [Value.int IntKind.u8 ((q : Int) % 256)] := by rw [HU.out]; rfl
            rw [e]; exact hown3
          clear hown3 hgrow
          go_wp2_with fail
          go_roundw
          case rel => exact ⟨k + 1, by omega, by go_num, by rw [HS.out]; go_num, HO3, HB3⟩
          case measure => simp [intOf]; omega
        · obtain rfl : k = 8 := by omega
          obtain ⟨gl, capl, rfl, hgl1, hgl2⟩ := hOl.out.form (by omega)
          have HLB := Lib.hid (BytesAt.of_own (bs := le8 m 8) (show wr.ownsRow _ 5 1 (.slice (some ⟨gl, 0, none⟩) 8 capl) (le8 m 8).length (bcells (le8 m 8)) from (le8_len m 8).symm ▸ hOl.out))
          have HO2 := Lib.hid (own_below hO.out hBl.out)
          have HB2 := Lib.hid (hB.out.trans (hBl.out.mono hbz))
          have HGL := Lib.hid (show gl < wr.heap.size from hgl2)
          have HNE2 := Lib.hid (show g ≠ gl by omega)
          generalize m / 256 ^ 8 = q8 at *
          rw [show ((8 : Nat) : Int) = 8 from rfl]
          obtain ⟨wM, rfl⟩ : ∃ wM : World, wM = wr := ⟨_, rfl⟩
          clear hO hB hOl hBl hk hlt hgl1 hblz
          go_wp2_with fail
          go_loopw [4, 8] (fun v i wq => ∃ (j g3 cap3 : Nat), j ≤ 8 ∧ v = .slice (some ⟨g3, 0, none⟩) (zn + 1 + j) cap3 ∧ i = .int .i64 ((7 : Int) - j) ∧ Hid (wq.ownsRow w.heap.size 5 1 (.slice (some ⟨g3, 0, none⟩) (zn + 1 + j) cap3) (zn + 1 + j) (bcells (128 :: List.replicate zn 0 ++ (be8 m).take j))) ∧ Hid (Below w.heap.size w wq) ∧ Hid (BytesAt wq (some ⟨gl, 0, none⟩) (le8 m 8)) ∧ Hid (g3 ≠ gl ∧ gl < wq.heap.size)) (fun _ i _ => ((intOf i) + 1).toNat)
          case atStart => exact ⟨0, g, cap, by omega, rfl, rfl, by rw [List.take_zero, List.append_nil]; exact HO2, HB2, HLB, ⟨HNE2.out, HGL.out⟩⟩
          case round =>
            obtain ⟨j, g3, cap3, hj, rfl, rfl, hO, hB, hL, hG⟩ := hrel
            have hbz3 := hB.out.size
            by_cases hlt : j < 8
            · have HT := Lib.hid (be8_take m j hlt)
              have hcl : wr.cell? ⟨gl, 7 - j, none⟩ = some (.int .u8 ((UInt8.ofNat (m / 256 ^ (7 - j) % 256)).toNat : Int)) := by
                obtain ⟨b, off, he, hc⟩ := hL.out (7 - j) (by rw [le8_len]; omega)
                simp only [Option.some.injEq, Addr.mk.injEq, and_true] at he
                obtain ⟨rfl, rfl⟩ := he
                rw [le8_at, Nat.zero_add] at hc
                exact hc
              generalize UInt8.ofNat (m / 256 ^ (7 - j) % 256) = u at *
              have hub : (u.toNat : Int) ≤ 255 := by have := u.toNat_lt; omega
              rw [show (7 : Int) - (j : Int) = ((7 - j : Nat) : Int) by omega]
              obtain ⟨t, ht⟩ : ∃ t : Nat, 7 - j = t := ⟨_, rfl⟩
              have HTJ := Lib.hid ht
              rw [ht] at hcl ⊢
              have ht7 : t ≤ 7 := by omega
              clear ht
              go_wp2_with ((at_builtin; refine wpList_append_own_at _ rfl _ _ 22 rfl w.heap.size 5 i0 (.int .u8 0) 1 1 Try.underlying22 hi hi0 hi1 hi2 rfl (by decide) _ _ _ rfl (hO.out.alloc _) ⟨wr.heap.size, 0, none⟩ 1 1 [.int .u8 (u.toNat : Int)] rfl rfl ?n1 ?n2 ?n3 ?n4 ?n5 ?_))
              case n1 => exact cells_new _ _ _ _ rfl
              case n2 => intro u hu; rw [List.mem_singleton] at hu; subst hu; rfl
              case n3 => unfold maxLen; omega
              case n4 => omega
              case n5 => simp; omega
              intro v' w3 hown3 hgrow _ hat
              have HB3 : Hid (Below w.heap.size w w3) := (hB.out.alloc hbz3 _).grown hgrow (by simp; omega) (fun b hb => (hO.out.lt b hb).1)
              obtain ⟨g4, cap4, rfl, _, hg4⟩ := hown3.form (by omega)
              have HL3 : Hid (BytesAt w3 (some ⟨gl, 0, none⟩) (le8 m 8)) := by
                intro k hk
                obtain ⟨b, off, he, hc⟩ := hL.out k hk
                simp only [Option.some.injEq, Addr.mk.injEq, and_true] at he
                obtain ⟨rfl, rfl⟩ := he
                refine ⟨gl, 0, rfl, hgrow.cell (((World.grownBy_alloc _ _ (some g3)).cell hc) (by simp; exact fun e => hG.out.1 e.symm)) (by simp [Value.ownBlock]; exact fun e => hG.out.1 e.symm)⟩
              have HG3 : Hid (g4 ≠ gl ∧ gl < w3.heap.size) := by
                have hsz3 := hgrow.size
                have hGo := hG.out
                simp at hsz3
                refine ⟨?_, by omega⟩
                rcases hat with h | h
                · have e4 : g4 = g3 := by simpa [Value.ownBlock] using h
                  rw [e4]; exact hGo.1
                · have e4 : g4 = wr.heap.size + 1 := by simpa [Value.ownBlock] using h
                  omega
              have HO3 : Hid (w3.ownsRow w.heap.size 5 1 (.slice (some ⟨g4, 0, none⟩) (zn + 1 + (j + 1)) cap4) (zn + 1 + (j + 1)) (bcells (128 :: List.replicate zn 0 ++ (be8 m).take (j + 1)))) := by
                unfold RowKit.Hid
                rw [HT.out, ← List.append_assoc, bcells_append _ [u]]
                exact hown3
              clear hown3 hgrow hat
              go_wp2_with fail
              go_roundw
              case rel => exact ⟨j + 1, g4, cap4, by omega, rfl, by have := HTJ.out; go_num, HO3, HB3, HL3, HG3⟩
              case measure => simp [intOf]
            · obtain rfl : j = 8 := by omega
              have HPE : Hid (padOf n = 128 :: List.replicate zn 0 ++ be8 m) := by unfold RowKit.Hid padOf; rw [HZN.out, HM8.out]
              have hO8 := hO.out
              rw [show (be8 m).take 8 = be8 m from List.take_of_length_le (by rw [be8_len]; exact Nat.le_refl _)] at hO8
              have HO8 : Hid (wr.ownsRow w.heap.size 5 1 (.slice (some ⟨g3, 0, none⟩) (zn + 1 + 8) cap3) (padOf n).length (bcells (padOf n))) := by
                unfold RowKit.Hid
                rw [HPE.out]
                have : (128 :: List.replicate zn 0 ++ be8 m).length = zn + 1 + 8 := by simp [be8_len]
                rw [this]; exact hO8
              rw [show (7 : Int) - ((8 : Nat) : Int) = -1 from rfl]
              clear hO8
              go_wp2_with fail
              go_ret2
              exact ⟨_, rfl, HO8.out, hB.out⟩
end Go.Proofs.Ytofjfpnkdcpngaa
