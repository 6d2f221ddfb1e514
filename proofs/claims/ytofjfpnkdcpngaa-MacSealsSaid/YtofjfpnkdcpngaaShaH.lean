/-
  Sums as text, by the package sha.
-/
import Derived.Test.YtofjfpnkdcpngaaShaB
import Derived.Test.YtofjfpnkdcpngaaKeep
namespace Go.Proofs.Ytofjfpnkdcpngaa
open Go.RowKit Mem

def digs : List UInt8 := [48, 49, 50, 51, 52, 53, 54, 55, 56, 57, 97, 98, 99, 100, 101, 102]
def dig (n : Nat) : UInt8 := digs.getD n 0
def hexB (c : UInt8) : List UInt8 := [dig (c.toNat / 16), dig (c.toNat % 16)]
def hexL (l : List UInt8) : List UInt8 := l.flatMap hexB
theorem hexL_len (l : List UInt8) : (hexL l).length = 2 * l.length := by
  induction l with
  | nil => rfl
  | cons c l ih => rw [hexL, List.flatMap_cons, List.length_append]; show 2 + (hexL l).length = _; rw [ih, List.length_cons]; omega
theorem hexL_succ (l : List UInt8) (k : Nat) (h : k < l.length) : hexL (l.take (k + 1)) = hexL (l.take k) ++ hexB (l[k]'h) := by
  rw [List.take_succ_eq_append_getElem h, hexL, List.flatMap_append]; simp [hexL]
theorem digs_at (n : Nat) (h : n < 16) : digs[n]? = some (dig n) := by
  unfold dig; rw [List.getD_eq_getElem?_getD, List.getElem?_eq_getElem (show n < digs.length from h)]; rfl
theorem run_index_u8 (w : World) (l : List UInt8) (k : Nat) (v : Value) (hk : k < 32) (hx : (bcells l).toArray[k]? = some v) :
    (Instr.index 27 (.agg (bcells l).toArray) (.int .i64 (k : Int))).run Try.prog w = .ok v w := by
  obtain ⟨i0, hi, hi0, hi1, hi2⟩ := info_parts infoByte
  have h : Try.prog.underlying 27 = some (.array 32 5) := by kernel_rfl
  have hk' : (0 : Int) ≤ (k : Int) ∧ (k : Int) < ((32 : Nat) : Int) := by omega
  simp [Instr.index, run_underlying h, asIntOf, hk', go_sem]
  rw [if_pos hk]
  rw [List.getElem?_toArray] at hx
  rw [hx]
  rfl
theorem run_index_digs (w : World) (n : Nat) (hn : n < 16) :
    (Instr.index 9 (.string ⟨#[48, 49, 50, 51, 52, 53, 54, 55, 56, 57, 97, 98, 99, 100, 101, 102]⟩) (.int .u8 (n : Int))).run Try.prog w = .ok (.int .u8 ((dig n).toNat : Int)) w := by
  rcases (show n = 0 ∨ n = 1 ∨ n = 2 ∨ n = 3 ∨ n = 4 ∨ n = 5 ∨ n = 6 ∨ n = 7 ∨ n = 8 ∨ n = 9 ∨ n = 10 ∨ n = 11 ∨ n = 12 ∨ n = 13 ∨ n = 14 ∨ n = 15 by omega) with rfl | rfl | rfl | rfl | rfl | rfl | rfl | rfl | rfl | rfl | rfl | rfl | rfl | rfl | rfl | rfl <;> (rw [run_index_string _ _ _ _ _ Try.underlying9]; rfl)
theorem dig_ba (n : Nat) (h : n < ByteArray.size ⟨#[48, 49, 50, 51, 52, 53, 54, 55, 56, 57, 97, 98, 99, 100, 101, 102]⟩) : ((⟨#[48, 49, 50, 51, 52, 53, 54, 55, 56, 57, 97, 98, 99, 100, 101, 102]⟩ : ByteArray)[n]'h).toNat = (dig n).toNat := by
  have hn : n < 16 := h
  rcases (show n = 0 ∨ n = 1 ∨ n = 2 ∨ n = 3 ∨ n = 4 ∨ n = 5 ∨ n = 6 ∨ n = 7 ∨ n = 8 ∨ n = 9 ∨ n = 10 ∨ n = 11 ∨ n = 12 ∨ n = 13 ∨ n = 14 ∨ n = 15 by omega) with rfl | rfl | rfl | rfl | rfl | rfl | rfl | rfl | rfl | rfl | rfl | rfl | rfl | rfl | rfl | rfl <;> rfl
theorem and15 (c : Nat) (h : c < 256) : bits .and .u8 (c : Int) 15 = ((c % 16 : Nat) : Int) := by
  have e : (15 : Int) = ((15 : Nat) : Int) := rfl
  rw [e, u8_and_nat c 15 (by omega) (by omega), Nat.and_two_pow_sub_one_eq_mod c 4]
set_option maxRecDepth 100000 in
set_option maxHeartbeats 4000000 in
theorem shahex (l : List UInt8) (w : World) (hl : l.length = 32) :
    Calls Try.prog 24 #[.agg (bcells l).toArray] w fun e w' => e = .returned (.string ⟨(hexL l).toArray⟩) ∧ Below w.heap.size w w' := by
  obtain ⟨i0, hi, hi0, hi1, hi2⟩ := info_parts infoByte
  obtain ⟨Z, hZl, hmk⟩ := make_bytes 0 64 (by omega)
  have HL := Lib.hid hl
  have hmk2 : ∀ wx : World, (Instr.makeSlice 22 (.int .i64 0) (.int .i64 64)).run Try.prog wx = .ok (.slice (some ⟨wx.heap.size, 0, none⟩) 0 64) (wx.alloc (.cells Z.toArray 5)) := hmk
  have hzl : Z.length = 64 := hZl
  have hz32 : (Try.prog.info? 27).map (·.size) = some 32 := by kernel_rfl
  have HS := Lib.hid (show (Try.prog.info? 27).map (·.size) = some (bcells l).toArray.size by rw [hz32, List.size_toArray, bcells_length, hl])
  clear hl hmk hZl hz32
  go_enter Try.func24, Try.ntmps24
  go_wp2_with (refine wpList_load_row rfl 27 (.tmp 1) rfl w.heap.size rfl _ _ _ (.array 32 5) (heap_alloc2_old w _ _) (by kernel_rfl) rfl HS.out ?_)
  have hst : ((w.alloc (Obj.cells (bcells l).toArray 27)).alloc (Obj.cells Z.toArray 5)).ownsRow w.heap.size 5 1 (.slice (some ⟨w.heap.size + 1, 0, none⟩) 0 64) 0 (bcells (hexL (l.take 0))) :=
    ⟨rfl, .inr ⟨w.heap.size + 1, 64, _, rfl, by omega, heap_alloc2_new _ _ _, by omega, by unfold maxLen; omega, by simp; omega, by simp [hexL, bcells]⟩⟩
  have HST := Lib.hid hst
  have HBB : Hid (Below w.heap.size w ((w.alloc (Obj.cells (bcells l).toArray 27)).alloc (Obj.cells Z.toArray 5))) := ((Below.refl _ _).alloc (Nat.le_refl _) _).alloc (by simp) _
  clear hst
  go_loopw [3, 8] (fun v i wr => ∃ k g cap : Nat, k ≤ 32 ∧ v = .slice (some ⟨g, 0, none⟩) (2 * k) cap ∧ i = .int .i64 k ∧ w.heap.size ≤ g ∧ Hid (wr.ownsRow w.heap.size 5 1 (.slice (some ⟨g, 0, none⟩) (2 * k) cap) (2 * k) (bcells (hexL (l.take k)))) ∧ Hid (Below w.heap.size w wr)) (fun _ i _ => 32 - (intOf i).toNat)
  case atStart => exact ⟨0, w.heap.size + 1, 64, by omega, rfl, rfl, by omega, HST, HBB⟩
  case round =>
    obtain ⟨k, g, cap, hk, rfl, rfl, hgw, hO, hB⟩ := hrel
    have hbz := hB.out.size
    by_cases hlt : k < 32
    · have hkl : k < l.length := by rw [HL.out]; exact hlt
      have HX := Lib.hid (hexL_succ l k hkl)
      have hx : (bcells l).toArray[k]? = some (.int .u8 ((l[k]'hkl).toNat : Int)) := by rw [List.getElem?_toArray]; exact bcells_at l k hkl
      generalize l[k]'hkl = u at *
      have hu0 : u.toNat < 256 := u.toNat_lt
      generalize hc : u.toNat = c at *
      have HC := Lib.hid hc
      have c0 : (0 : Int) ≤ c := by omega
      have c1 : (c : Int) ≤ 255 := by omega
      have ix := run_index_u8 wr l k _ hlt hx
      have d1 := fun wx => run_index_digs wx (c / 16) (by omega)
      have d2 := fun wx => run_index_digs wx (c % 16) (by omega)
      have r0 : (0 : Int) ≤ k := by omega
      have r1 : (k : Int) < 32 := by omega
      clear hc hkl
      go_wp2_with fail
      clear ix d1 d2
      have q0 : (0 : Int) ≤ (c : Int) / 16 := by omega
      have q1 : (c : Int) / 16 < 16 := by omega
      have q2 : (0 : Int) ≤ bits .and .u8 (c : Int) 15 := by rw [and15 c hu0]; omega
      have q3 : bits .and .u8 (c : Int) 15 < 16 := by rw [and15 c hu0]; omega
      have q4 : c / 16 < 16 := by omega
      have q5 : (bits .and .u8 (c : Int) 15).toNat < 16 := by omega
      go_region_held3 (fun w' => True) (first | exact trivial | go_keep)
        ((refine step_append_keep rfl _ _ 22 rfl w.heap.size 5 i0 (.int .u8 0) 1 1 Try.underlying22 hi hi0 hi1 hi2 rfl (by decide) g (2 * k) cap (bcells (hexL (l.take k))) rfl ((hO.out.alloc _).drew) ⟨wr.heap.size, 0, none⟩ 2 2 [_, _] rfl rfl (World.news_of_block (cs := #[_, _]) (heap_alloc_new _ _)) (by intro u hu; simp at hu; rcases hu with rfl | rfl <;> rfl) (by decide) (by unfold maxLen; omega) (by omega) (by simp; omega) ?_; intro g2 cap2 w3 hown3 hgrow hkeep hg2))
      all_goals
        have HB3 : Hid (Below w.heap.size w w3) := (hB.out.alloc hbz _).drew.grown hgrow (by simp; omega) (fun b hb => by injection hb; omega)
        have hg2w : w.heap.size ≤ g2 := (hown3.lt g2 rfl).1
        have hcell : bcells (hexL (l.take (k + 1))) = bcells (hexL (l.take k)) ++ [.int .u8 ((dig (c / 16)).toNat : Int), .int .u8 ((dig (c % 16)).toNat : Int)] := by
          rw [HX.out, bcells_append]; unfold hexB bcells; rw [HC.out]; rfl
        simp only [dig_ba] at hown3
        rw [show ((c : Int) / 16).toNat = c / 16 by omega, show (bits .and .u8 (c : Int) 15).toNat = c % 16 by rw [and15 c hu0]; omega, ← hcell] at hown3
        have HO3 := Lib.hid hown3
        rename_i hHeld
        clear hHeld hown3 hgrow hcell hkeep hg2
        go_wp2_with fail
        go_roundw
        case rel => exact ⟨k + 1, g2, cap2, by omega, rfl, by go_num, hg2w, HO3, HB3⟩
        case measure => simp [intOf]; omega
    · obtain rfl : k = 32 := by omega
      have h8 := hO.out
      rw [List.take_of_length_le (by rw [HL.out]; exact Nat.le_refl _)] at h8
      have hlen : (hexL l).length = 2 * 32 := by rw [hexL_len, HL.out]
      have cv := conv_bytes wr (some ⟨g, 0, none⟩) cap (hexL l) (BytesAt.of_own h8)
      rw [hlen] at cv
      clear h8
      go_wp2_with fail
      go_ret
      exact ⟨rfl, hB.out⟩
end Go.Proofs.Ytofjfpnkdcpngaa
