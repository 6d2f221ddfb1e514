/-
  The reference's Spoil on the tail of a row: the cells ahead of it are as they were.
-/
import Derived.Test.YtofjfpnkdcpngaaCell1
import Derived.ArgAppend
namespace Go.Proofs.Ytofjfpnkdcpngaa
open Go.RowKit Mem

def HeadKept (w w' : World) (g off : Nat) (cur : Array Value) : Prop := w.grownBy w' (some g) ∧ ∃ cur' : Array Value, w'.heap[g]? = some (.cells cur' 5 (0, 0)) ∧ cur'.size = cur.size ∧ ∀ j, j < off → cur'[j]? = cur[j]?
set_option maxHeartbeats 4000000 in
theorem wspoil_tail (g off cm : Nat) (cur : Array Value) (bs : List UInt8) (w : World) (hg : w.heap[g]? = some (.cells cur 5 (0, 0))) (hcm : bs.length ≤ cm) (hsz : off + cm ≤ cur.size)
    (hbs : ∀ j (h : j < bs.length), cur[off + j]? = some (.int .u8 ((bs[j]'h).toNat : Int))) (hn : bs.length ≤ 140737488351232) (hc63 : cm ≤ 9223372036854775807) :
    Calls Try.prog 23 #[.slice (some ⟨g, off, none⟩) bs.length cm] w fun e w' => (∃ r, e = .returned r) ∧ HeadKept w w' g off cur := by
  obtain ⟨i0, hi, hi0, hi1, hi2⟩ := info_parts infoByte
  have HI1 : Hid ((Try.prog.info? 5).map (·.size) = some 1) := by unfold RowKit.Hid; rw [hi, Option.map_some, hi1]
  have HG := Lib.hid hg
  have HBS := Lib.hid hbs
  have hgl : g < w.heap.size := (Array.getElem?_eq_some_iff.1 hg).1
  clear hg hbs
  go_enter Try.func23, Try.ntmps23
  go_wp2_with fail
  go_loopw [2] (fun i wr => ∃ (k : Nat) (cs : Array Value), k ≤ bs.length ∧ i = .int .i64 k ∧ Hid (wr.heap[g]? = some (.cells cs 5 (0, 0))) ∧ Hid (w.grownBy wr (some g)) ∧ Hid (cs.size = cur.size) ∧ Hid (∀ j, j < off → cs[j]? = cur[j]?) ∧ Hid (∀ j, k ≤ j → cs[off + j]? = cur[off + j]?)) (fun i _ => bs.length - (intOf i).toNat)
  case atStart => exact ⟨0, cur, Nat.zero_le _, rfl, HG, World.grownBy.refl _ _, rfl, fun _ _ => rfl, fun _ _ => rfl⟩
  case round =>
    obtain ⟨k, cs, hk, rfl, hG, hB, hS, hL, hR⟩ := hrel
    by_cases hlt : k < bs.length
    · have hcell : wr.cell? ⟨g, off + k, none⟩ = some (.int .u8 ((bs[k]'hlt).toNat : Int)) := by
        rw [cell_of_row wr g (off + k) _ _ (0, 0) hG.out]
        exact (hR.out k (Nat.le_refl _)).trans (HBS.out k hlt)
      have hcb : ((bs[k]'hlt).toNat : Int) ≤ 255 := by have := (bs[k]'hlt).toNat_lt; omega
      have HSZ : Hid (off + k < cs.size) := by have := hS.out; unfold RowKit.Hid; omega
      have HX1 : Hid (∀ (u : Value) j, j < off → (cs.setIfInBounds (off + k) u)[j]? = cur[j]?) := fun u j hj => by rw [Array.getElem?_setIfInBounds_ne (by omega)]; exact hL.out j hj
      have HX2 : Hid (∀ (u : Value) j, k + 1 ≤ j → (cs.setIfInBounds (off + k) u)[off + j]? = cur[off + j]?) := fun u j hj => by rw [Array.getElem?_setIfInBounds_ne (by omega)]; exact hR.out j (by omega)
      generalize (bs[k]'hlt).toNat = c at *
      go_wp2_with (refine wpList_store1 rfl 5 (.tmp 16) (.tmp 15) rfl g (off + k) .u8 _ rfl rfl hG.out HSZ.out HI1.out ?_; intro y1 r1 m1; have R1 := Lib.hid r1; have G1 := Lib.hid m1; clear r1 m1)
      have E1 := Lib.hid (World.grownBy.trans hB.out G1.out)
      have E2 : Hid ((cs.setIfInBounds (off + k) (.int .u8 (bits .xor .u8 (c : Int) 90))).size = cur.size) := by unfold RowKit.Hid; rw [Array.size_setIfInBounds]; exact hS.out
      go_roundw
      case rel => exact ⟨k + 1, _, by omega, by go_num, R1, E1, E2, HX1.out _, HX2.out _⟩
      case measure => simp [intOf]; omega
    · obtain rfl : k = bs.length := by omega
      have HZW : Hid (g < wr.heap.size) := by have := hB.out.size; unfold RowKit.Hid; omega
      have HOL : Hid (∃ olds : List Value, olds.length = bs.length * 1 ∧ ∀ j u, olds[j]? = some u → (wr.alloc (.cells #[.int .u8 99] 5)).cell? ⟨g, off + j, none⟩ = some u) := by
        refine ⟨(cs.toList.drop off).take bs.length, ?_, ?_⟩
        · have := hS.out
          simp only [List.length_take, List.length_drop, Array.length_toList]
          omega
        · intro j u hu
          rw [List.getElem?_take] at hu
          split at hu
          · rw [List.getElem?_drop] at hu
            rw [cell_of_row _ g (off + j) _ _ (0, 0) ((heap_alloc_old wr _ HZW.out).trans hG.out), ← hu]
            simp
          · cases hu
      obtain ⟨olds, hol, holds⟩ := HOL.out
      have HO := Lib.hid holds
      have HOL2 := Lib.hid hol
      clear holds hol HOL
      go_wp2_with (at_builtin; refine wpList_append_arg _ rfl (.tmp 17) (.tmp 18) 22 rfl 5 i0 (.int .u8 0) 1 1 Try.underlying22 hi hi0 hi1 hi2 rfl (by decide) g off bs.length cm olds rfl HOL2.out HO.out ⟨wr.heap.size, 0, none⟩ 1 1 [.int .u8 99] rfl rfl ?k1 ?k2 ?k3 ?k4 ?k5 ?k6 ?k7)
      case k1 => exact cells_new _ _ _ _ rfl
      case k2 => intro u hu; rw [List.mem_singleton] at hu; subst hu; rfl
      case k3 =>
        intro hroom j hj
        have hj0 : j = 0 := by simp at hj; omega
        subst hj0
        have hh := (heap_alloc_old wr (.cells #[.int .u8 99] 5) HZW.out).trans hG.out
        have hlt2 : off + bs.length * 1 + 0 < cs.size := by have := hS.out; omega
        refine ⟨?_, frozen_of_row _ g _ _ _ hh⟩
        rw [cell_of_row _ g _ _ _ (0, 0) hh, Array.getElem?_eq_getElem hlt2]
        rfl
      case k4 => unfold maxLen; omega
      case k5 => omega
      case k6 =>
        intro hroom
        have hh := Lib.hid ((heap_alloc_old wr (.cells #[.int .u8 99] 5) HZW.out).trans hG.out)
        obtain ⟨y, hy⟩ : ∃ y, y = (wr.alloc (.cells #[.int .u8 99] 5)).setCells g (off + bs.length) [.int .u8 99] := ⟨_, rfl⟩
        rw [← hy]
        have hy1 : Hid (y.heap[g]? = some (.cells (cs.setIfInBounds (off + bs.length) (.int .u8 99)) 5 (0, 0))) := by
          rw [hy]
          exact heap_setCell_same _ g (off + bs.length) _ _ (.int .u8 99) hh.out
        have hy2 : Hid (w.grownBy y (some g)) := by
          rw [hy]
          exact World.grownBy.trans (World.grownBy.trans hB.out (World.grownBy_alloc _ _ _)) (grown_setCell _ _ _ _)
        have HSZ : Hid (off + bs.length < (cs.setIfInBounds (off + bs.length) (.int .u8 99)).size) := by have := hS.out; unfold RowKit.Hid; rw [Array.size_setIfInBounds]; omega
        clear hy
        go_wp2_with (refine wpList_store1 rfl 5 (.tmp 24) (.const (.int .u8 98)) rfl g (off + bs.length) .u8 _ rfl rfl hy1.out HSZ.out HI1.out ?_; intro y1 r1 m1; have R1 := Lib.hid r1; have G1 := Lib.hid m1; clear r1 m1)
        go_end0
        refine ⟨⟨_, rfl⟩, World.grownBy.trans hy2.out G1.out, _, R1.out, ?_, ?_⟩
        · rw [Array.size_setIfInBounds, Array.size_setIfInBounds]; exact hS.out
        · intro j hj
          rw [Array.getElem?_setIfInBounds_ne (by omega), Array.getElem?_setIfInBounds_ne (by omega)]
          exact hL.out j hj
      case k7 =>
        intro hfull v' w' hown hgrow
        obtain ⟨g2, cap2, rfl, hb2, hgl2⟩ := hown.form (by omega)
        have hlast : (olds ++ [Value.int .u8 99])[bs.length]? = some (Value.int .u8 99) := by
          have := HOL2.out
          rw [List.getElem?_append_right (by omega), show bs.length - olds.length = 0 by omega]; rfl
        have hcell := hown.cells (g := g2) rfl bs.length _ hlast
        have hfr := hown.frozenAt bs.length
        rw [add_at] at hcell
        have hG2 : Hid (w.grownBy w' (some g)) := World.grownBy.trans (World.grownBy.trans hB.out (World.grownBy_alloc _ _ _)) ⟨hgrow.os, hgrow.tape, hgrow.output, hgrow.size, fun k hk _ => hgrow.block k hk (by simp)⟩
        have hh : Hid (w'.heap[g]? = some (.cells cs 5 (0, 0))) := (hgrow.block g (by have := HZW.out; simp; omega) (by simp)).trans ((heap_alloc_old wr _ HZW.out).trans hG.out)
        have HNE : Hid (g ≠ g2 ∧ w.heap.size ≤ g2) := by
          have := HZW.out
          have := hB.out.size
          try simp at hb2
          unfold RowKit.Hid
          omega
        have HT : Hid (∀ u, w.grownBy (w'.setCell ⟨g2, bs.length, none⟩ u) (some g) ∧ (w'.setCell ⟨g2, bs.length, none⟩ u).heap[g]? = some (.cells cs 5 (0, 0))) := fun u => by
          refine ⟨⟨hG2.out.os, hG2.out.tape, hG2.out.output, Nat.le_trans hG2.out.size (by simp), fun k hk hne => ?_⟩, ?_⟩
          · rw [heap_setCell_other _ _ _ _ (by have := HNE.out; simp; omega)]
            exact hG2.out.block k hk hne
          · rw [heap_setCell_other _ _ _ _ (by have := HNE.out; simp; omega)]
            exact hh.out
        clear hown hgrow hlast
        go_wp2_with fail
        go_end0
        exact ⟨⟨_, rfl⟩, (HT.out _).1, cs, (HT.out _).2, hS.out, hL.out⟩
set_option maxHeartbeats 4000000 in
theorem wspoil_empty (ao : Option Addr) (w : World) :
    Calls Try.prog 23 #[.slice ao 0 0] w fun e w' => (∃ r, e = .returned r) ∧ w.grownBy w' none := by
  obtain ⟨i0, hi, hi0, hi1, hi2⟩ := info_parts infoByte
  go_enter Try.func23, Try.ntmps23
  go_wp2_with fail
  go_loopw [2] (fun i wr => i = .int .i64 0 ∧ wr = w) (fun _ _ => 0)
  case atStart => exact ⟨rfl, rfl⟩
  case round =>
    obtain ⟨rfl, rfl⟩ := hrel
    go_wp2_with (at_builtin; refine wpList_append_grows _ rfl (.tmp 17) (.tmp 18) 22 rfl 5 i0 (.int .u8 0) 1 1 Try.underlying22 hi hi0 hi1 hi2 rfl (by decide) ao 0 0 [] rfl (fun _ => ⟨rfl, rfl⟩) rfl (fun _ _ j u h => by simp at h) ⟨wr.heap.size, 0, none⟩ 1 1 [.int .u8 99] rfl rfl ?k1 ?k2 (by decide) ?k4 ?k5 ?_)
    case k1 => exact cells_new _ _ _ _ rfl
    case k2 => intro u hu; rw [List.mem_singleton] at hu; subst hu; rfl
    case k4 => unfold maxLen; omega
    case k5 => omega
    intro v' w' hown hgrow
    obtain ⟨g2, cap2, rfl, hb2, hgl2⟩ := hown.form (by omega)
    have hcell := hown.cells (g := g2) rfl 0 (Value.int .u8 99) rfl
    have hfr := hown.frozenAt 0
    rw [add_at] at hcell
    have HT : Hid (∀ u, wr.grownBy (w'.setCell ⟨g2, 0, none⟩ u) none) := fun u => by
      have h1 := World.grownBy.trans (World.grownBy_alloc wr (.cells #[.int .u8 99] 5) none) hgrow
      refine ⟨h1.os, h1.tape, h1.output, Nat.le_trans h1.size (by simp), fun k hk hne => ?_⟩
      rw [heap_setCell_other _ _ _ _ (by (try simp at hb2); simp; omega)]
      exact h1.block k hk hne
    clear hown hgrow
    go_wp2_with fail
    go_end0
    exact ⟨⟨_, rfl⟩, HT.out _⟩
end Go.Proofs.Ytofjfpnkdcpngaa
