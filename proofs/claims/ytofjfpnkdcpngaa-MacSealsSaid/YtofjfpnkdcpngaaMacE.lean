/-
  A mixed block and bytes behind it, by the reference of mac.
-/
import Derived.Test.YtofjfpnkdcpngaaMacK
namespace Go.Proofs.Ytofjfpnkdcpngaa
open Go.RowKit Mem

theorem mix_one (x : UInt8) (l : List UInt8) (k : Nat) (h : k < l.length) : bcells (mixB x (l.take (k + 1))) = bcells (mixB x (l.take k)) ++ [.int .u8 ((((l[k]'h) ^^^ x).toNat : Nat) : Int)] := by
  rw [List.take_succ_eq_append_getElem h]
  unfold mixB
  rw [List.map_append, bcells_append]
  rfl
set_option maxRecDepth 100000 in
set_option maxHeartbeats 4000000 in
theorem refmixed (blk : List UInt8) (hblk : blk.length = 64) (x : UInt8) (n : Int) (hn : n = (x.toNat : Int)) (b : List UInt8) (A : Option Addr) (c : Nat) (w : World) (hA : BSrc w A c b) (hm : b.length ≤ 140737488351232 - 200) :
    Calls Try.prog 27 #[.agg (bcells blk).toArray, .int .u8 n, .slice A b.length c] w fun e w' => ∃ v, e = .returned v ∧ w'.ownsRow w.heap.size 5 1 v (64 + b.length) (bcells (mixB x blk ++ b)) ∧ Below w.heap.size w w' := by
  subst hn
  have HA := Lib.hid hA
  have HL := Lib.hid hblk
  have HFIN : Hid (bcells (mixB x blk ++ b) = bcells (mixB x (blk.take 64)) ++ bcells b) := by
    unfold RowKit.Hid; rw [bcells_append, List.take_of_length_le (by omega)]
  have hx := x.toNat_lt
  clear hA
  obtain ⟨i0, hi, hi0, hi1, hi2⟩ := info_parts infoByte
  go_enter Try.func27, Try.ntmps27
  go_upto_region 1 with fail
  obtain ⟨W1, hW1⟩ : ∃ W1, W1 = w.alloc (.cells (bcells blk).toArray 25) := ⟨_, rfl⟩
  have HK : Hid (W1.heap[w.heap.size]? = some (.cells (bcells blk).toArray 25 (0, 0))) := by rw [hW1]; exact heap_alloc_new _ _
  have HB1 : Hid (Below w.heap.size w W1) := by rw [hW1]; exact (Below.refl _ _).alloc (Nat.le_refl _) _
  refine wp_congr_world (W1 := W1) hW1 ?_
  have HKL : Hid (w.heap.size < W1.heap.size) := (Array.getElem?_eq_some_iff.1 HK.out).1
  clear hW1
  go_wp2_with fail
  go_loopw [7, 8] (fun v i wr => ∃ j : Nat, j ≤ 64 ∧ i = .int .i64 j ∧ Hid (wr.ownsRow W1.heap.size 5 1 v j (bcells (mixB x (blk.take j)))) ∧ Hid (Below W1.heap.size W1 wr)) (fun _ i _ => 64 - (intOf i).toNat)
  case atStart => exact ⟨0, by omega, rfl, World.ownsRow_nil _ _ _ _, Below.refl _ _⟩
  case round =>
    obtain ⟨j, hj, rfl, hv, hB⟩ := hrel
    by_cases hlt : j < 64
    · as_aux_lemma =>
        have hjl : j < blk.length := by rw [HL.out]; exact hlt
        have cb : wr.cell? ⟨w.heap.size, j, none⟩ = some (.int .u8 ((blk[j]'hjl).toNat : Int)) := by
          rw [cell_of_row wr w.heap.size j _ _ (0, 0) ((hB.out.block _ HKL.out).trans HK.out), List.getElem?_toArray]; exact bcells_at blk j hjl
        have HM := Lib.hid (mix_one x blk j hjl)
        have HX := Lib.hid (b_xor (blk[j]'hjl) x)
        generalize blk[j]'hjl = y at *
        have r0 : (0 : Int) ≤ j := by omega
        have r1 : (j : Int) < 64 := by omega
        have hbz := hB.out.size
        go_wp2_with (at_builtin; refine wpList_append_own _ rfl _ _ 22 rfl W1.heap.size 5 i0 (.int .u8 0) 1 1 Try.underlying22 hi hi0 hi1 hi2 rfl (by decide) _ _ _ rfl (hv.out.alloc _) ⟨wr.heap.size, 0, none⟩ 1 1 [.int .u8 (bits .xor .u8 (y.toNat : Int) (x.toNat : Int))] rfl rfl ?c1 ?c2 ?c3 ?c4 ?c5 ?_)
        case c1 => exact cells_new _ _ _ _ rfl
        case c2 => intro u hu; rw [List.mem_singleton] at hu; subst hu; rfl
        case c3 => unfold maxLen; omega
        case c4 => omega
        case c5 => simp; omega
        intro v2 w3 hown2 hg2 _
        have HBa : Hid (Below W1.heap.size W1 w3) := (hB.out.alloc hbz _).grown hg2 (by simp; omega) (fun g hg => (hv.out.lt g hg).1)
        rw [HX.out, ← HM.out] at hown2
        have HV3 := Lib.hid hown2
        clear hown2 hg2
        go_wp2_with fail
        go_roundw
        case rel => exact ⟨j + 1, by omega, by go_num, HV3, HBa⟩
        case measure => simp [intOf]; omega
    · obtain rfl : j = 64 := by omega
      obtain ⟨A2, c2, rfl⟩ := own_slice hv.out
      have HBW := Lib.hid (HB1.out.trans (hB.out.mono HB1.out.size))
      go_wp2_with (at_builtin; refine wpList_app_any rfl (.tmp 21) (.tmp 22) 22 rfl W1.heap.size 5 i0 (.int .u8 0) 1 1 Try.underlying22 hi hi0 hi1 hi2 rfl (by decide) (.slice A2 64 c2) 64 (bcells (mixB x (blk.take 64))) rfl hv.out A b.length c (bcells b) rfl (HA.out.below HBW.out (Nat.le_refl _)) (bcells_one b) ?d3 ?d4 hB.out.size ?_)
      case d3 => unfold maxLen; omega
      case d4 => omega
      intro v3 w4 hown3 hg3
      have HB4 : Hid (Below W1.heap.size W1 w4) := hB.out.trans (below_of_grown hg3 hB.out.size (fun g hg => (hv.out.lt g hg).1))
      rw [← HFIN.out] at hown3
      have HO4 : Hid (w4.ownsRow w.heap.size 5 1 v3 (64 + b.length) (bcells (mixB x blk ++ b))) := own_base hown3 (Nat.le_of_lt HKL.out)
      have HB5 := Lib.hid (HB1.out.trans (HB4.out.mono HB1.out.size))
      clear hown3 hg3 HFIN
      go_wp2_with fail
      go_ret
      exact ⟨_, rfl, HO4.out, HB5.out⟩
end Go.Proofs.Ytofjfpnkdcpngaa
