/-
  Sums as text and texts as sums, by the reference.
-/
import Derived.Test.YtjglboejgmplgaaShaK
import Derived.Test.YtjglboejgmplgaaRegFix
import Derived.Laws.Concat
namespace Go.Proofs.Ytjglboejgmplgaa
open Go.RowKit Mem

theorem dig_nib : ∀ c : Fin 256, ∀ n, n < 16 → nib (UInt8.ofNat c.val) = some n → dig n = UInt8.ofNat c.val := by decide +kernel
theorem dig_of_nib {c : UInt8} {n : Nat} (h : nib c = some n) : dig n = c := by
  have hc := c.toNat_lt
  have e : UInt8.ofNat c.toNat = c := by simp
  have := dig_nib ⟨c.toNat, hc⟩ n (nib_lt h) (by rw [e]; exact h)
  rw [this, e]
def digV (c : UInt8) : Int := match nib c with | some n => (n : Int) | none => -1
theorem run_index_digs64 (w : World) (n : Nat) (hn : n < 16) :
    (Instr.index 9 (.string ⟨#[48, 49, 50, 51, 52, 53, 54, 55, 56, 57, 97, 98, 99, 100, 101, 102]⟩) (.int .i64 (n : Int))).run Try.prog w = .ok (.int .u8 ((dig n).toNat : Int)) w := by
  rcases (show n = 0 ∨ n = 1 ∨ n = 2 ∨ n = 3 ∨ n = 4 ∨ n = 5 ∨ n = 6 ∨ n = 7 ∨ n = 8 ∨ n = 9 ∨ n = 10 ∨ n = 11 ∨ n = 12 ∨ n = 13 ∨ n = 14 ∨ n = 15 by omega) with rfl | rfl | rfl | rfl | rfl | rfl | rfl | rfl | rfl | rfl | rfl | rfl | rfl | rfl | rfl | rfl <;> (rw [run_index_string _ _ _ _ _ Try.underlying9]; rfl)
set_option maxHeartbeats 1000000 in
theorem refdigit (c : UInt8) (w : World) : Calls Try.prog 34 #[.int .u8 (c.toNat : Int)] w fun e w' => e = .returned (.int .i64 (digV c)) ∧ w = w' := by
  have hnone : (∀ j, j < 16 → dig j ≠ c) → digV c = -1 := fun h => by
    unfold digV
    rcases hn : nib c with _ | n
    · rfl
    · exact absurd (dig_of_nib hn) (h n (nib_lt hn))
  have hsome : ∀ j, j < 16 → dig j = c → digV c = (j : Int) := fun j hj h => by
    unfold digV
    rw [← h, nib_dig j hj]
  have HNONE := Lib.hid hnone
  have HSOME := Lib.hid hsome
  clear hnone hsome
  go_enter Try.func34, Try.ntmps34
  go_wp2_with fail
  go_loop [3] (fun i => ∃ k : Nat, k ≤ 16 ∧ i = .int .i64 k ∧ Hid (∀ j, j < k → dig j ≠ c)) (fun i => 16 - (intOf i).toNat)
  case atStart => exact ⟨0, by omega, rfl, fun j hj => by omega⟩
  case round =>
    obtain ⟨k, hk, rfl, hno⟩ := hrel
    by_cases hlt : k < 16
    · have ix : ∀ wx, (Instr.index 9 (.string ⟨#[48, 49, 50, 51, 52, 53, 54, 55, 56, 57, 97, 98, 99, 100, 101, 102]⟩) (.int .i64 (k : Int))).run Try.prog wx = .ok (.int .u8 ((dig k).toNat : Int)) wx := fun wx => run_index_digs64 wx k hlt
      by_cases hd : dig k = c
      · have HV := Lib.hid (HSOME.out k hlt hd)
        have ht : (((dig k).toNat : Int) == (c.toNat : Int)) = true := by rw [hd]; simp
        generalize (dig k).toNat = dk at *
        clear hd
        go_wp2_with fail
        go_ret
        exact ⟨by rw [HV.out]; rfl, rfl⟩
      · have ht : (((dig k).toNat : Int) == (c.toNat : Int)) = false := by
          rw [beq_eq_false_iff_ne]
          intro h
          exact hd (UInt8.toNat_inj.1 (by omega))
        have HNO : Hid (∀ j, j < k + 1 → dig j ≠ c) := fun j hj => by
          rcases Nat.lt_or_ge j k with h | h
          · exact hno.out j h
          · have : j = k := by omega
            rw [this]; exact hd
        generalize (dig k).toNat = dk at *
        clear hd
        go_wp2_with fail
        go_round
        case rel => exact ⟨k + 1, by omega, by go_num, HNO⟩
        case measure => simp [intOf]; omega
    · obtain rfl : k = 16 := by omega
      have HV := Lib.hid (HNONE.out hno.out)
      go_wp2_with fail
      go_ret
      exact ⟨by rw [HV.out]; rfl, rfl⟩
set_option maxRecDepth 100000 in
set_option maxHeartbeats 4000000 in
theorem refunhex (l : List UInt8) (w : World) (_ : l.length ≤ 140737488351232) :
    Calls Try.prog 22 #[.string ⟨l.toArray⟩] w fun e w' => e = .returned (.tuple #[.agg (bcells (unhexV l).1).toArray, .int .i64 (unhexV l).2]) ∧ Below w.heap.size w w' := by
  have hi : (Try.prog.info? 37).map (·.size) = some 32 := by kernel_rfl
  have HI := Lib.hid hi
  have hi1 : (Try.prog.info? 5).map (·.size) = some 1 := by kernel_rfl
  have HI1 := Lib.hid hi1
  clear hi hi1
  have hsz : (⟨l.toArray⟩ : ByteArray).size = l.length := rfl
  have HSZ := Lib.hid hsz
  clear hsz
  by_cases hl : l.length = 64
  · have HL := Lib.hid hl
    have hne : ((l.length : Int) != 64) = false := by rw [hl]; rfl
    clear hl
    go_enter Try.func22, Try.ntmps22
    go_upto_region 2 with fail
    obtain ⟨W0, hW0⟩ : ∃ W0, W0 = (w.alloc (.cells (Array.replicate 32 (.int .u8 0)) 37)).alloc (.cells (Array.replicate 32 (.int .u8 0)) 37) := ⟨_, rfl⟩
    have HR0 : Hid (W0.heap[w.heap.size]? = some (.cells (Array.replicate 32 (.int .u8 0)) 37 (0, 0))) := by rw [hW0]; exact heap_alloc2_old _ _ _
    have HR1 : Hid (W0.heap[w.heap.size + 1]? = some (.cells (preC l 0) 37 (0, 0))) := by rw [hW0, preC_zero]; exact heap_alloc2_new _ _ _
    have HB0 : Hid (Below w.heap.size w W0) := by rw [hW0]; exact ((Below.refl _ _).alloc (Nat.le_refl _) _).alloc (by simp) _
    refine wp_congr_world (W1 := W0) hW0 ?_
    clear hW0
    go_wp2_with fail
    go_loopw [5] (fun i wr => ∃ k : Nat, k ≤ 32 ∧ i = .int .i64 k ∧ Hid (allP l k = true) ∧ Hid (wr.heap[w.heap.size + 1]? = some (.cells (preC l k) 37 (0, 0))) ∧ Hid (wr.heap[w.heap.size]? = some (.cells (Array.replicate 32 (.int .u8 0)) 37 (0, 0))) ∧ Hid (Below w.heap.size w wr)) (fun i _ => 32 - (intOf i).toNat)
    case atStart => exact ⟨0, by omega, rfl, rfl, HR1, HR0, HB0⟩
    case round =>
      obtain ⟨k, hk, rfl, hall, h1, h0, hB⟩ := hrel
      by_cases hlt : k < 32
      · have hk1 : 2 * k < l.length := by rw [HL.out]; omega
        have hk2 : 2 * k + 1 < l.length := by rw [HL.out]; omega
        have HP : Hid (pairAt l k = (nib (l[2 * k]'hk1)).bind fun h => (nib (l[2 * k + 1]'hk2)).map fun m => UInt8.ofNat (16 * h + m)) := by
          unfold RowKit.Hid pairAt
          rw [List.getD_eq_getElem?_getD, List.getD_eq_getElem?_getD, List.getElem?_eq_getElem hk1, List.getElem?_eq_getElem hk2]
          rfl
        have ix1 : ∀ wx, (Instr.index 9 (.string ⟨l.toArray⟩) (.int .i64 (2 * (k : Int)))).run Try.prog wx = .ok (.int .u8 ((l[2 * k]'hk1).toNat : Int)) wx := fun wx => run_index_at l (2 * k) hk1 _ (by omega) wx
        have ix2 : ∀ wx, (Instr.index 9 (.string ⟨l.toArray⟩) (.int .i64 (2 * (k : Int) + 1))).run Try.prog wx = .ok (.int .u8 ((l[2 * k + 1]'hk2).toNat : Int)) wx := fun wx => run_index_at l (2 * k + 1) hk2 _ (by omega) wx
        generalize l[2 * k]'hk1 = c1 at *
        generalize l[2 * k + 1]'hk2 = c2 at *
        clear hk1 hk2
        have N1 := Lib.hid (fun W => refdigit c1 W)
        have N2 := Lib.hid (fun W => refdigit c2 W)
        rcases hn1 : nib c1 with _ | x
        · unfold digV at N1; rw [hn1] at N1
          have HNO : Hid (unhexV l = (List.replicate 32 0, 4)) := unhexV_no hlt (by rw [HP.out, hn1]; rfl)
          clear hn1 HP
          go_wp2_with fail
          refine (N1.out _).mono ?_
          rintro e w' ⟨rfl, rfl⟩
          go_wp2_with fail
          refine (N2.out _).mono ?_
          rintro e w' ⟨rfl, rfl⟩
          go_wp2_with (refine wpList_store_row rfl 37 (.tmp 2) (.tmp 33) rfl w.heap.size (bcells (List.replicate 32 0)).toArray rfl (by kernel_rfl) _ _ h0.out (by rw [HI.out]; rfl) rfl (cells_one32 _) ?_)
          exact bodyPost_ret (v := .tuple #[.agg (bcells (List.replicate 32 0)).toArray, .int .i64 4]) (results_row_tmp (P := Try.prog) (d := .array 32 5) rfl _ _ w.heap.size _ _ _ _ rfl (setRow_heap _ _ _ _ _ _ h0.out) (by kernel_rfl) rfl (by rw [HI.out]; rfl) rfl) rfl ⟨by rw [HNO.out], below_setRow hB.out (Nat.le_refl _)⟩
        · unfold digV at N1; rw [hn1] at N1
          rcases hn2 : nib c2 with _ | y
          · unfold digV at N2; rw [hn2] at N2
            have HNO : Hid (unhexV l = (List.replicate 32 0, 4)) := unhexV_no hlt (by rw [HP.out, hn1, hn2]; rfl)
            clear hn1 hn2 HP
            go_wp2_with fail
            refine (N1.out _).mono ?_
            rintro e w' ⟨rfl, rfl⟩
            go_wp2_with fail
            refine (N2.out _).mono ?_
            rintro e w' ⟨rfl, rfl⟩
            go_wp2_with (refine wpList_store_row rfl 37 (.tmp 2) (.tmp 33) rfl w.heap.size (bcells (List.replicate 32 0)).toArray rfl (by kernel_rfl) _ _ h0.out (by rw [HI.out]; rfl) rfl (cells_one32 _) ?_)
            exact bodyPost_ret (v := .tuple #[.agg (bcells (List.replicate 32 0)).toArray, .int .i64 4]) (results_row_tmp (P := Try.prog) (d := .array 32 5) rfl _ _ w.heap.size _ _ _ _ rfl (setRow_heap _ _ _ _ _ _ h0.out) (by kernel_rfl) rfl (by rw [HI.out]; rfl) rfl) rfl ⟨by rw [HNO.out], below_setRow hB.out (Nat.le_refl _)⟩
          · unfold digV at N2; rw [hn2] at N2
            have hx16 := nib_lt hn1
            have hy16 := nib_lt hn2
            have HPX : Hid (pairAt l k = some (UInt8.ofNat (16 * x + y))) := by unfold RowKit.Hid; rw [HP.out, hn1, hn2]; rfl
            have HALL : Hid (allP l (k + 1) = true) := by unfold RowKit.Hid; rw [allP_succ, hall.out, HPX.out]; rfl
            have HST := Lib.hid (preC_step l k hlt _ HPX.out)
            have HJ : Hid (16 * (x : Int) + (y : Int) = ((UInt8.ofNat (16 * x + y)).toNat : Int)) := by unfold RowKit.Hid; rw [UInt8.toNat_ofNat']; omega
            have N1' : ∀ W, Calls Try.prog 34 #[.int .u8 (c1.toNat : Int)] W fun e w' => e = .returned (.int .i64 (x : Int)) ∧ W = w' := N1.out
            have N2' : ∀ W, Calls Try.prog 34 #[.int .u8 (c2.toNat : Int)] W fun e w' => e = .returned (.int .i64 (y : Int)) ∧ W = w' := N2.out
            have M1 := Lib.hid N1'
            have M2 := Lib.hid N2'
            have x0 : (0 : Int) ≤ x := by omega
            have x1 : (x : Int) ≤ 15 := by omega
            have y0 : (0 : Int) ≤ y := by omega
            have y1 : (y : Int) ≤ 15 := by omega
            have HSZ32 := Lib.hid (preC_size l k hk)
            have r0 : (0 : Int) ≤ k := by omega
            have r1 : (k : Int) < 32 := by omega
            clear hn1 hn2 HP N1' N2' N1 N2
            go_wp2_with fail
            refine (M1.out _).mono ?_
            rintro e w' ⟨rfl, rfl⟩
            go_wp2_with fail
            refine (M2.out _).mono ?_
            rintro e w' ⟨rfl, rfl⟩
            clear ix1 ix2
            go_wp2_with (refine wpList_store1 rfl 5 (.tmp 40) (.tmp 39) rfl (w.heap.size + 1) k .u8 _ rfl rfl h1.out (by rw [HSZ32.out]; exact hlt) HI1.out ?_; intro y1 r1 m1; have R1 := Lib.hid r1; have G1 := Lib.hid m1; clear r1 m1)
            have E1 : Hid (y1.heap[w.heap.size + 1]? = some (.cells (preC l (k + 1)) 37 (0, 0))) := by unfold RowKit.Hid; rw [← HST.out, ← HJ.out]; exact R1.out
            have E0 : Hid (y1.heap[w.heap.size]? = some (.cells (Array.replicate 32 (.int .u8 0)) 37 (0, 0))) := other_by G1.out (by omega) h0.out
            have EB : Hid (Below w.heap.size w y1) := below_by hB.out G1.out hB.out.size (by omega)
            go_roundw
            case rel => exact ⟨k + 1, by omega, by go_num, HALL, E1, E0, EB⟩
            case measure => simp [intOf]; omega
      · obtain rfl : k = 32 := by omega
        have HOK : Hid (unhexV l = (pre l 32, 0)) := unhexV_ok HL.out hall.out
        rw [preC_last] at h1
        have HSP : Hid ((bcells (pre l 32)).toArray.size = 32) := by unfold RowKit.Hid; rw [List.size_toArray, bcells_length, pre_len]
        generalize pre l 32 = pl at *
        go_wp2_with (first
          | refine wpList_load_row rfl 37 (.tmp 4) rfl (w.heap.size + 1) rfl _ _ _ (.array 32 5) h1.out (by kernel_rfl) rfl (by rw [HI.out, HSP.out]) ?_
          | refine wpList_store_row rfl 37 (.tmp 2) (.tmp 41) rfl w.heap.size (bcells pl).toArray rfl rfl _ _ h0.out (by rw [HI.out, HSP.out]) (by rw [HSP.out]; rfl) (cells_one32 _) ?_)
        exact bodyPost_ret (v := .tuple #[.agg (bcells pl).toArray, .int .i64 0]) (results_row_tmp (P := Try.prog) (d := .array 32 5) rfl _ _ w.heap.size _ _ _ _ rfl (setRow_heap _ _ _ _ _ _ h0.out) (by kernel_rfl) rfl (by rw [HI.out, HSP.out]) rfl) rfl ⟨by rw [HOK.out], below_setRow hB.out (Nat.le_refl _)⟩
  · have HNO := Lib.hid (unhexV_bad hl)
    have hne : ((l.length : Int) != 64) = true := by rw [bne_iff_ne]; omega
    clear hl
    go_enter Try.func22, Try.ntmps22
    go_upto_region 2 with fail
    obtain ⟨W0, hW0⟩ : ∃ W0, W0 = (w.alloc (.cells (Array.replicate 32 (.int .u8 0)) 37)).alloc (.cells (Array.replicate 32 (.int .u8 0)) 37) := ⟨_, rfl⟩
    have HR0 : Hid (W0.heap[w.heap.size]? = some (.cells (Array.replicate 32 (.int .u8 0)) 37 (0, 0))) := by rw [hW0]; exact heap_alloc2_old _ _ _
    have HR1 : Hid (W0.heap[w.heap.size + 1]? = some (.cells (bcells (List.replicate 32 0)).toArray 37 (0, 0))) := by rw [hW0, zero_cells]; exact heap_alloc2_new _ _ _
    have HB0 : Hid (Below w.heap.size w W0) := by rw [hW0]; exact ((Below.refl _ _).alloc (Nat.le_refl _) _).alloc (by simp) _
    refine wp_congr_world (W1 := W0) hW0 ?_
    clear hW0
    have HSP : Hid ((bcells (List.replicate 32 0)).toArray.size = 32) := by unfold RowKit.Hid; rw [List.size_toArray, bcells_length]; rfl
    generalize List.replicate 32 (0 : UInt8) = pl at *
    go_wp2_with (first
      | refine wpList_load_row rfl 37 (.tmp 4) rfl (w.heap.size + 1) rfl _ _ _ (.array 32 5) HR1.out (by kernel_rfl) rfl (by rw [HI.out, HSP.out]) ?_
      | refine wpList_store_row rfl 37 (.tmp 2) (.tmp 11) rfl w.heap.size (bcells pl).toArray rfl rfl _ _ HR0.out (by rw [HI.out, HSP.out]) (by rw [HSP.out]; rfl) (cells_one32 _) ?_)
    exact bodyPost_ret (v := .tuple #[.agg (bcells pl).toArray, .int .i64 4]) (results_row_tmp (P := Try.prog) (d := .array 32 5) rfl _ _ w.heap.size _ _ _ _ rfl (setRow_heap _ _ _ _ _ _ HR0.out) (by kernel_rfl) rfl (by rw [HI.out, HSP.out]) rfl) rfl ⟨by rw [HNO.out], below_setRow HB0.out (Nat.le_refl _)⟩
theorem run_slice_digs (w : World) (n : Nat) (hn : n < 16) :
    (Instr.slice 9 (.string ⟨#[48, 49, 50, 51, 52, 53, 54, 55, 56, 57, 97, 98, 99, 100, 101, 102]⟩) (some (.int .u8 (n : Int))) (some (.int .u8 ((n : Int) + 1))) none).run Try.prog w = .ok (.string ⟨#[dig n]⟩) w := by
  rcases (show n = 0 ∨ n = 1 ∨ n = 2 ∨ n = 3 ∨ n = 4 ∨ n = 5 ∨ n = 6 ∨ n = 7 ∨ n = 8 ∨ n = 9 ∨ n = 10 ∨ n = 11 ∨ n = 12 ∨ n = 13 ∨ n = 14 ∨ n = 15 by omega) with rfl | rfl | rfl | rfl | rfl | rfl | rfl | rfl | rfl | rfl | rfl | rfl | rfl | rfl | rfl | rfl <;> kernel_rfl
set_option maxRecDepth 100000 in
set_option maxHeartbeats 4000000 in
theorem refhex (l : List UInt8) (w : World) (hl : l.length = 32) :
    Calls Try.prog 24 #[.agg (bcells l).toArray] w fun e w' => e = .returned (.string ⟨(hexL l).toArray⟩) ∧ Below w.heap.size w w' := by
  have HL := Lib.hid hl
  clear hl
  go_enter Try.func24, Try.ntmps24
  go_wp2_with fail
  have HR0 : Hid ((w.alloc (.cells (bcells l).toArray 37)).heap[w.heap.size]? = some (.cells (bcells l).toArray 37 (0, 0))) := heap_alloc_new _ _
  have HB0 : Hid (Below w.heap.size w (w.alloc (.cells (bcells l).toArray 37))) := (Below.refl _ _).alloc (Nat.le_refl _) _
  go_loopw [3, 4] (fun s i wr => ∃ k : Nat, k ≤ 32 ∧ i = .int .i64 k ∧ s = .string ⟨(hexL (l.take k)).toArray⟩ ∧ Hid (wr.heap[w.heap.size]? = some (.cells (bcells l).toArray 37 (0, 0))) ∧ Hid (Below w.heap.size w wr)) (fun _ i _ => 32 - (intOf i).toNat)
  case atStart => exact ⟨0, by omega, rfl, rfl, HR0, HB0⟩
  case round =>
    obtain ⟨k, hk, rfl, rfl, hR, hB⟩ := hrel
    by_cases hlt : k < 32
    · have hkl : k < l.length := by rw [HL.out]; exact hlt
      have cb : wr.cell? ⟨w.heap.size, k, none⟩ = some (.int .u8 ((l[k]'hkl).toNat : Int)) := by
        rw [cell_of_row wr w.heap.size k _ _ (0, 0) hR.out, List.getElem?_toArray]; exact bcells_at l k hkl
      have HX := Lib.hid (hexL_succ l k hkl)
      generalize l[k]'hkl = u at *
      have hu0 : u.toNat < 256 := u.toNat_lt
      generalize hc : u.toNat = c at *
      have HC := Lib.hid hc
      have c0 : (0 : Int) ≤ c := by omega
      have c1 : (c : Int) ≤ 255 := by omega
      have d1 : ∀ wx, (Instr.slice 9 (.string ⟨#[48, 49, 50, 51, 52, 53, 54, 55, 56, 57, 97, 98, 99, 100, 101, 102]⟩) (some (.int .u8 ((c : Int) / 16))) (some (.int .u8 ((c : Int) / 16 + 1))) none).run Try.prog wx = .ok (.string ⟨#[dig (c / 16)]⟩) wx := fun wx => run_slice_digs wx (c / 16) (by omega)
      have d2 : ∀ wx, (Instr.slice 9 (.string ⟨#[48, 49, 50, 51, 52, 53, 54, 55, 56, 57, 97, 98, 99, 100, 101, 102]⟩) (some (.int .u8 ((c : Int) % 16))) (some (.int .u8 ((c : Int) % 16 + 1))) none).run Try.prog wx = .ok (.string ⟨#[dig (c % 16)]⟩) wx := fun wx => run_slice_digs wx (c % 16) (by omega)
      have r0 : (0 : Int) ≤ k := by omega
      have r1 : (k : Int) < 32 := by omega
      have w0 : IntKind.u8.wrap ((c : Int) / 16) = (c : Int) / 16 := by rw [IntKind.wrap_u8']; omega
      have w3 : IntKind.u8.wrap ((c : Int) % 16) = (c : Int) % 16 := by rw [IntKind.wrap_u8']; omega
      have w1 : IntKind.u8.wrap ((c : Int) / 16 + 1) = (c : Int) / 16 + 1 := by rw [IntKind.wrap_u8']; omega
      have w2 : IntKind.u8.wrap ((c : Int) % 16 + 1) = (c : Int) % 16 + 1 := by rw [IntKind.wrap_u8']; omega
      have t1 : (c : Int).tdiv 16 = (c : Int) / 16 := Int.tdiv_eq_ediv_of_nonneg c0
      have t2 : (c : Int).tmod 16 = (c : Int) % 16 := Int.tmod_eq_emod_of_nonneg c0
      have hhl : (hexL (l.take k)).length ≤ 64 := by rw [hexL_len, List.length_take]; omega
      have HF : Hid (hexL (l.take (k + 1)) = hexL (l.take k) ++ [dig (c / 16)] ++ [dig (c % 16)]) := by
        unfold RowKit.Hid
        rw [HX.out, List.append_assoc]
        unfold hexB
        rw [HC.out]
        rfl
      generalize hexL (l.take k) = h at *
      have s1 : ∀ wx, (Op.stringOp .add ⟨h.toArray⟩ ⟨#[dig (c / 16)]⟩).run Try.prog wx = .ok (.string ⟨(h ++ [dig (c / 16)]).toArray⟩) wx := fun wx => run_string_add_lists wx h [dig (c / 16)] (by omega) (by simp)
      have s2 : ∀ wx, (Op.stringOp .add ⟨(h ++ [dig (c / 16)]).toArray⟩ ⟨#[dig (c % 16)]⟩).run Try.prog wx = .ok (.string ⟨(h ++ [dig (c / 16)] ++ [dig (c % 16)]).toArray⟩) wx := fun wx => run_string_add_lists wx (h ++ [dig (c / 16)]) [dig (c % 16)] (by simp; omega) (by simp)
      generalize hq2 : h ++ [dig (c / 16)] ++ [dig (c % 16)] = q2 at *
      generalize hq1 : h ++ [dig (c / 16)] = q1 at *
      clear hc hkl hq1 hq2 hhl
      go_wp2_with fail
      go_quiet (fail)
      clear s1 s2 d1 d2 w0 w1 w2 w3 t1 t2
      go_wp2_with fail
      have HRn : Hid (∀ n, (wr.drewN n).heap[w.heap.size]? = some (.cells (bcells l).toArray 37 (0, 0))) := fun n => hR.out
      have HBn : Hid (∀ n, Below w.heap.size w (wr.drewN n)) := fun n => below_drewN hB.out n
      go_roundw
      case rel => exact ⟨k + 1, by omega, by go_num, by rw [HF.out], HRn.out _, HBn.out _⟩
      case measure => simp [intOf]; omega
    · obtain rfl : k = 32 := by omega
      rw [List.take_of_length_le (by rw [HL.out]; exact Nat.le_refl _)]
      go_wp2_with fail
      go_ret
      exact ⟨rfl, hB.out⟩
end Go.Proofs.Ytjglboejgmplgaa
