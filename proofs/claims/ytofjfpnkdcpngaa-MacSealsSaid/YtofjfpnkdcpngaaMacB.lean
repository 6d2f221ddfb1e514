/-
  The digest of a mixed block and bytes, by the package mac.
-/
import Derived.Test.YtofjfpnkdcpngaaMacA
namespace Go.Proofs.Ytofjfpnkdcpngaa
open Go.RowKit Mem

def mixB (x : UInt8) (l : List UInt8) : List UInt8 := l.map (· ^^^ x)
theorem mixB_len (x : UInt8) (l : List UInt8) : (mixB x l).length = l.length := List.length_map ..
theorem b_xor (c x : UInt8) : bits .xor .u8 (c.toNat : Int) (x.toNat : Int) = ((c ^^^ x).toNat : Int) := by
  rw [u8_xor_nat _ _ c.toNat_lt x.toNat_lt, UInt8.toNat_xor]
theorem run_index_64 (w : World) (l : List UInt8) (k : Nat) (v : Value) (hk : k < 64) (hx : (bcells l).toArray[k]? = some v) :
    (Instr.index 25 (.agg (bcells l).toArray) (.int .i64 (k : Int))).run Try.prog w = .ok v w := by
  obtain ⟨i0, hi, hi0, hi1, hi2⟩ := info_parts infoByte
  have h : Try.prog.underlying 25 = some (.array 64 5) := by kernel_rfl
  have hk' : (0 : Int) ≤ (k : Int) ∧ (k : Int) < ((64 : Nat) : Int) := by omega
  simp [Instr.index, run_underlying h, asIntOf, hk', go_sem]
  rw [if_pos hk]
  rw [List.getElem?_toArray] at hx
  rw [hx]
  rfl
def mixC (m : List UInt8) (Z : List Value) (k : Nat) : Array Value := (bcells (m.take k) ++ Z.drop k).toArray
theorem mixC_zero (m : List UInt8) (Z : List Value) : mixC m Z 0 = Z.toArray := by simp [mixC, bcells]
theorem mixC_size (m : List UInt8) (Z : List Value) (k : Nat) (h : k ≤ m.length) (hz : m.length ≤ Z.length) : (mixC m Z k).size = Z.length := by
  simp [mixC, bcells]
  omega
theorem mixC_step (m : List UInt8) (Z : List Value) (k : Nat) (h : k < m.length) (hz : m.length ≤ Z.length) : (mixC m Z k).setIfInBounds k (.int .u8 (((m[k]'h).toNat : Nat) : Int)) = mixC m Z (k + 1) := by
  unfold mixC
  rw [List.setIfInBounds_toArray]
  congr 1
  have hl : (bcells (m.take k)).length = k := by rw [bcells_length, List.length_take]; omega
  rw [List.set_append_right _ _ (by omega), hl, Nat.sub_self, List.take_succ_eq_append_getElem h, bcells_append, List.append_assoc]
  congr 1
  rw [← List.getElem_cons_drop (h := by omega)]
  rfl
theorem heap_old3 (w : World) (a b c : Obj) : (((w.alloc a).alloc b).alloc c).heap[w.heap.size]? = some a := by
  rw [heap_alloc_old _ _ (by simp; omega), heap_alloc2_old]
set_option maxRecDepth 100000 in
set_option maxHeartbeats 4000000 in
theorem macdigest (blk : List UInt8) (hblk : blk.length = 64) (x : UInt8) (n : Int) (hn : n = (x.toNat : Int)) (b : List UInt8) (A : Option Addr) (c : Nat) (w : World) (hA : BSrc w A c b) (hm : b.length ≤ 140737488351232 - 200) :
    Calls Try.prog 26 #[.agg (bcells blk).toArray, .int .u8 n, .slice A b.length c] w fun e w' => e = .returned (.agg (bcells (sumOf (mixB x blk ++ b))).toArray) ∧ Below w.heap.size w w' := by
  subst hn
  obtain ⟨i0, hi, hi0, hi1, hi2⟩ := info_parts infoByte
  obtain ⟨Z, hZl, hmk0⟩ := make_bytes 64 b.length (by omega)
  have hmk : ∀ wx : World, (Instr.makeSlice 22 (.int .i64 64) (.int .i64 (64 + (b.length : Int)))).run Try.prog wx = .ok (.slice (some ⟨wx.heap.size, 0, none⟩) 64 (64 + b.length)) (wx.alloc (.cells Z.toArray 5)) := hmk0
  have HA := Lib.hid hA
  have HBL := Lib.hid hblk
  have HZL := Lib.hid hZl
  have HML : Hid ((mixB x blk).length = 64) := by unfold RowKit.Hid; rw [mixB_len, hblk]
  have hi64 : (Try.prog.info? 25).map (·.size) = some 64 := by kernel_rfl
  have hib : (Try.prog.info? 5).map (·.size) = some 1 := by kernel_rfl
  have hi32 : (Try.prog.info? 27).map (·.size) = some 32 := by kernel_rfl
  have HI64 := Lib.hid hi64
  have HIB := Lib.hid hib
  have HI32 := Lib.hid hi32
  have HBS : Hid ((bcells blk).toArray.size = 64) := by unfold RowKit.Hid; rw [List.size_toArray, bcells_length, hblk]
  have HX := Lib.hid (fun (A : Option Addr) (c : Nat) (W : World) (h : BSrc W A c (mixB x blk ++ b)) (h1 : (mixB x blk ++ b).length ≤ c) (h2 : c ≤ 9223372036854775807) => shasum shastep_ok (mixB x blk ++ b) A c W h h1 (by rw [List.length_append, mixB_len, hblk]; omega) h2)
  have HXL : Hid ((mixB x blk ++ b).length = 64 + b.length) := by unfold RowKit.Hid; rw [List.length_append, mixB_len, hblk]
  have HSL := Lib.hid (sumOf_len (mixB x blk ++ b))
  have HGET : Hid (∀ k (h : k < 64), ∃ u : UInt8, (bcells blk).toArray[k]? = some (.int .u8 (u.toNat : Int)) ∧ (mixC (mixB x blk) Z k).setIfInBounds k (.int .u8 ((u ^^^ x).toNat : Int)) = mixC (mixB x blk) Z (k + 1)) := fun k h => by
    have hk : k < blk.length := by omega
    refine ⟨blk[k]'hk, by rw [List.getElem?_toArray]; exact bcells_at blk k hk, ?_⟩
    have := mixC_step (mixB x blk) Z k (by rw [mixB_len]; exact hk) (by rw [mixB_len]; omega)
    rw [← this]
    congr 4
    simp [mixB]
  have HCS : Hid (∀ k, k ≤ 64 → (mixC (mixB x blk) Z k).size = 64 + b.length) := fun k hk => by rw [mixC_size _ _ _ (by rw [mixB_len]; omega) (by rw [mixB_len]; omega), hZl]
  have HC0 := Lib.hid (mixC_zero (mixB x blk) Z)
  have HCL : Hid ((mixC (mixB x blk) Z 64).toList.take 64 = bcells (mixB x blk)) := by
    unfold RowKit.Hid mixC
    have h1 : (bcells (mixB x blk)).length = 64 := by rw [bcells_length, mixB_len, hblk]
    rw [List.take_of_length_le (l := mixB x blk) (by rw [mixB_len]; omega)]
    show List.take 64 (bcells (mixB x blk) ++ Z.drop 64) = _
    rw [← h1, List.take_left]
  clear hA hblk hZl hmk0 hi64 hib hi32
  generalize mixC (mixB x blk) Z = mc at *
  go_enter Try.func26, Try.ntmps26
  go_wp2_with (refine wpList_load_row rfl 25 (.tmp 3) rfl w.heap.size rfl _ _ _ (.array 64 5) (heap_old3 w _ _ _) (by kernel_rfl) rfl (by rw [HI64.out, HBS.out]) ?_)
  have HR1 : Hid ((((w.alloc (Obj.cells (bcells blk).toArray 25)).alloc (Obj.cells (Array.replicate 32 (.int .u8 0)) 27)).alloc (Obj.cells Z.toArray 5)).heap[w.heap.size + 1]? = some (.cells (Array.replicate 32 (.int .u8 0)) 27 (0, 0))) := by
    unfold RowKit.Hid
    rw [heap_alloc_old _ _ (by simp), heap_alloc2_new]
  have HR2 : Hid ((((w.alloc (Obj.cells (bcells blk).toArray 25)).alloc (Obj.cells (Array.replicate 32 (.int .u8 0)) 27)).alloc (Obj.cells Z.toArray 5)).heap[w.heap.size + 1 + 1]? = some (.cells (mc 0) 5 (0, 0))) := by
    unfold RowKit.Hid
    rw [HC0.out]
    have := heap_alloc_new ((w.alloc (Obj.cells (bcells blk).toArray 25)).alloc (Obj.cells (Array.replicate 32 (.int .u8 0)) 27)) (Obj.cells Z.toArray 5)
    simpa using this
  have HB1 : Hid (Below w.heap.size w (((w.alloc (Obj.cells (bcells blk).toArray 25)).alloc (Obj.cells (Array.replicate 32 (.int .u8 0)) 27)).alloc (Obj.cells Z.toArray 5))) := (((Below.refl _ _).alloc (Nat.le_refl _) _).alloc (by simp) _).alloc (by simp; omega) _
  go_loopw [15] (fun i wr => ∃ k : Nat, k ≤ 64 ∧ i = .int .i64 k ∧ Hid (wr.heap[w.heap.size + 1 + 1]? = some (.cells (mc k) 5 (0, 0))) ∧ Hid (wr.heap[w.heap.size + 1]? = some (.cells (Array.replicate 32 (.int .u8 0)) 27 (0, 0))) ∧ Hid (Below w.heap.size w wr)) (fun i _ => 64 - (intOf i).toNat)
  case atStart => exact ⟨0, by omega, rfl, HR2, HR1, HB1⟩
  case round =>
    obtain ⟨k, hk, rfl, h7, h6, hB⟩ := hrel
    by_cases hlt : k < 64
    · as_aux_lemma =>
        obtain ⟨u, hu, hst⟩ := HGET.out k hlt
        have ix := run_index_64 wr blk k _ hlt hu
        have HST := Lib.hid hst
        have HXO := Lib.hid (b_xor u x)
        have HSZ := Lib.hid (HCS.out k hk)
        have r0 : (0 : Int) ≤ k := by omega
        have r1 : (k : Int) < 64 := by omega
        clear hu hst
        go_wp2_with (refine wpList_store1 rfl 5 (.tmp 24) (.tmp 23) rfl (w.heap.size + 1 + 1) k .u8 _ rfl rfl h7.out (by rw [HSZ.out]; omega) HIB.out ?_; intro y1 r1 m1; have R1 := Lib.hid r1; have G1 := Lib.hid m1; clear r1 m1)
        have E1 : Hid (y1.heap[w.heap.size + 1 + 1]? = some (.cells (mc (k + 1)) 5 (0, 0))) := by unfold RowKit.Hid; rw [← HST.out, ← HXO.out]; exact R1.out
        have E2 : Hid (y1.heap[w.heap.size + 1]? = some (.cells (Array.replicate 32 (.int .u8 0)) 27 (0, 0))) := other_by G1.out (by omega) h6.out
        have E3 : Hid (Below w.heap.size w y1) := below_by hB.out G1.out hB.out.size (by omega)
        go_roundw
        case rel => exact ⟨k + 1, by omega, by go_num, E1, E2, E3⟩
        case measure => simp [intOf]; omega
    · obtain rfl : k = 64 := by omega
      have HO : Hid (wr.ownsRow (w.heap.size + 1 + 1) 5 1 (.slice (some ⟨w.heap.size + 1 + 1, 0, none⟩) 64 (64 + b.length)) 64 (bcells (mixB x blk))) :=
        ⟨by rw [bcells_length, HML.out], .inr ⟨w.heap.size + 1 + 1, 64 + b.length, mc 64, rfl, Nat.le_refl _, h7.out, by omega, by unfold maxLen; omega, by rw [HCS.out 64 (Nat.le_refl _), Nat.mul_one], HCL.out⟩⟩
      have HZW : Hid (w.heap.size + 1 + 1 ≤ wr.heap.size) := by have := (Array.getElem?_eq_some_iff.1 h7.out).1; unfold RowKit.Hid; omega
      clear h7 HGET HCS HCL HC0
      go_wp2_with (at_builtin; refine wpList_app_any rfl (.tmp 26) (.tmp 27) 22 rfl (w.heap.size + 1 + 1) 5 i0 (.int .u8 0) 1 1 Try.underlying22 hi hi0 hi1 hi2 rfl (by decide) (.slice (some ⟨w.heap.size + 1 + 1, 0, none⟩) 64 (64 + b.length)) 64 (bcells (mixB x blk)) rfl HO.out A b.length c (bcells b) rfl (HA.out.below hB.out (Nat.le_refl _)) (bcells_one b) ?d3 ?d4 HZW.out ?_)
      case d3 => unfold maxLen; omega
      case d4 => omega
      intro v2 w2 hown2 hg2
      have HB2 : Hid (Below (w.heap.size + 1 + 1) wr w2) := below_of_grown hg2 HZW.out (fun g hg => by simp [Value.ownBlock] at hg; omega)
      have HR6 := Lib.hid ((HB2.out.block _ (Nat.lt_succ_self _)).trans h6.out)
      have ho : w2.ownsRow (w.heap.size + 1 + 1) 5 1 v2 (mixB x blk ++ b).length (bcells (mixB x blk ++ b)) := by
        rw [HXL.out, bcells_append]; exact hown2
      obtain ⟨A2, c2, rfl⟩ := own_slice ho
      have hcap : (mixB x blk ++ b).length ≤ c2 ∧ c2 ≤ 9223372036854775807 := by
        rcases ho.2 with ⟨hv, h0⟩ | ⟨g, cap, cur, hv, _, _, hn', hc', _⟩
        · injection hv with _ h1 h2; omega
        · injection hv with _ h1 h2; unfold maxLen at hc'; omega
      have HSRC := Lib.hid (Src.of_own ho)
      have HCAP := Lib.hid hcap
      clear hown2 hg2 ho hcap
      have HB3 := Lib.hid (hB.out.trans (HB2.out.mono (by omega)))
      have HFIN : Hid (∃ D, D = sumOf (mixB x blk ++ b)) := ⟨_, rfl⟩
      obtain ⟨D, hD⟩ := HFIN.out
      rw [← hD] at HX HSL
      have HD := Lib.hid hD
      generalize hmm : mixB x blk ++ b = mm at *
      have HMM := Lib.hid hmm
      clear hmm
      have HDS : Hid ((bcells D).toArray.size = 32) := by unfold RowKit.Hid; rw [List.size_toArray, bcells_length, HSL.out]
      have HDO := Lib.hid (cells_one32 D)
      clear hD HFIN
      go_wp2_with fail
      refine (HX.out A2 c2 _ HSRC.out HCAP.out.1 HCAP.out.2).mono ?_
      rintro e w3 ⟨rfl, hb3⟩
      have HR7 := Lib.hid ((hb3.block _ (Array.getElem?_eq_some_iff.1 HR6.out).1).trans HR6.out)
      have HB4 := Lib.hid (HB3.out.trans (hb3.mono HB3.out.size))
      clear hb3
      go_wp2_with (refine wpList_store_row rfl 27 (.tmp 6) (.tmp 29) rfl (w.heap.size + 1) (bcells D).toArray rfl rfl _ _ HR7.out (by rw [HI32.out, HDS.out]) (by rw [HDS.out]; rfl) HDO.out ?_)
      exact bodyPost_ret (v := .agg (bcells D).toArray) (results_cell_row (P := Try.prog) (d := .array 32 5) rfl _ _ (w.heap.size + 1) _ _ _ rfl (setRow_heap _ _ _ _ _ _ HR7.out) (by kernel_rfl) rfl (by rw [HI32.out, HDS.out])) rfl ⟨by rw [HD.out, HMM.out], below_setRow HB4.out (Nat.le_succ _)⟩
end Go.Proofs.Ytofjfpnkdcpngaa
