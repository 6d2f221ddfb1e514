/-
  The image that bytes say: the function read.
-/
import Derived.Test.YtjhopgmionpkoaaImI0
namespace Go.Proofs.Ytjhopgmionpkoaa
set_option maxRecDepth 20000
open Go.RowKit Mem

set_option maxRecDepth 100000 in
set_option maxHeartbeats 16000000 in
theorem imread (bs : Ia.Bs) (A : Option Addr) (c : Nat) (w : World) (hA : BytesAt w A bs) (hc : bs.length ≤ c) (hn : bs.length ≤ 1000000) :
    Calls Try.prog 33 #[.slice A bs.length c] w (ReadPost bs w) := by
  have HA := Lib.hid hA
  have HBF : Hid (∀ X Y, Below w.heap.size w ((w.alloc X).alloc Y)) := fun X Y => ((Below.refl _ _).alloc (Nat.le_refl _) X).alloc (by simp) Y
  have hmf : ∀ (fn : Fn) (first cap : Array Value) (w : World), (Instr.makeFunc fn first cap).run Try.prog w = .ok (.func fn first cap) w := fun _ _ _ _ => rfl
  clear hA
  by_cases h4 : 4 ≤ bs.length
  · obtain ⟨A4, hA4, hs4⟩ := slice_to c HA.out 4 h4 hc
    have HA4 := Lib.hid hA4
    have HS4 := Lib.hid hs4
    clear hA4 hs4
    go_enter Try.func33, Try.ntmps33
    go_wp2_with fail
    obtain ⟨W0, hW0⟩ : ∃ W0, W0 = (w.alloc (.cells #[.slice A bs.length c] 31)).alloc (.cells #[.int .u32 0, .int .u32 0, .int .i64 0, .int .i64 0, .int .i64 0, .int .i64 0, .int .i64 0, .int .i64 0, .slice none 0 0, .slice none 0 0, .slice none 0 0, .int .i64 0, .int .i64 0] 28) := ⟨_, rfl⟩
    rw [← hW0]
    have HG0 : Hid (W0.heap[w.heap.size]? = some (.cells #[.slice A bs.length c] 31 (0, 0))) := by unfold RowKit.Hid; rw [hW0]; exact heap_alloc2_old _ _ _
    have HZ0 : Hid (W0.heap[w.heap.size + 1]? = some (.cells #[.int .u32 0, .int .u32 0, .int .i64 0, .int .i64 0, .int .i64 0, .int .i64 0, .int .i64 0, .int .i64 0, .slice none 0 0, .slice none 0 0, .slice none 0 0, .int .i64 0, .int .i64 0] 28 (0, 0))) := by unfold RowKit.Hid; rw [hW0]; exact heap_alloc2_new _ _ _
    have HB0 : Hid (Below w.heap.size w W0) := by unfold RowKit.Hid; rw [hW0]; exact HBF.out _ _
    have hz0 : w.heap.size + 2 ≤ W0.heap.size := by rw [hW0]; simp
    clear hW0
    obtain ⟨mq, hmq⟩ : ∃ q, q = decide (bs.take 4 = magic) := ⟨_, rfl⟩
    have HMQ := Lib.hid hmq
    refine wp_region_any (by kernel_rfl) ?_
    refine wpAny_by (ops' := imrlOps) (by kernel_rfl) ?_
    refine imrlRegion _ W0 ?hs bs A A4 c c w.heap.size bs.length mq rfl HG0.out h4 HS4.out (HA4.out.below HB0.out (Nat.le_refl _)) ((magic_eq _).trans hmq.symm) rfl ?_
    case hs => simp
    clear hmq
    rintro vs w4 hb4 ⟨_, _, _, hre, hrp, hnv⟩
    have hre := hre rfl
    have hrp := hrp rfl
    have hnv := hnv rfl rfl
    rw [if_pos rfl] at hre hrp
    obtain ⟨ga, va, hga, hra⟩ := hre
    obtain ⟨gk, vk, hgk, hrk⟩ := hrp
    have hgak : ga ≠ gk := fun e => hnv (by rw [va, vk, e])
    simp only [imrlSlots, List.foldl_cons, List.foldl_nil]
    simp only [imrlVal]
    simp only [Act.put, List.setIfInBounds_toArray, List.set_cons_zero, List.set_cons_succ]
    rw [va, vk]
    have ck : w4.cell? ⟨gk, 0, none⟩ = some (.bool mq) := cell_of_row _ _ 0 _ _ (0, 0) hrk
    have HRA := Lib.hid hra
    have HRK := Lib.hid hrk
    have HG4 := Lib.hid ((hb4.block _ (Array.getElem?_eq_some_iff.1 HG0.out).1).trans HG0.out)
    have HZ4 := Lib.hid ((hb4.block _ (Array.getElem?_eq_some_iff.1 HZ0.out).1).trans HZ0.out)
    have HB4 := Lib.hid (HB0.out.trans (hb4.mono HB0.out.size))
    have hz4 := hb4.size
    clear va vk hnv hra hrk hb4 HG0 HZ0 HB0 hre hrp
    cases mq
    case false =>
      have HNO : Hid (rd bs = none) := rd_magic (fun h => by have := HMQ.out; rw [decide_eq_true h] at this; cases this)
      go_wp2_with (refine wpList_store_row rfl 28 (.tmp 2) (.tmp 27) rfl (w.heap.size + 1) _ rfl rfl _ _ HZ4.out infoImS rfl zrow_one ?_)
      refine ret_im (v := .bool false) 2 3 ?r1 ?r2 ?r3 ?r4 (setRow_heap _ _ _ #[.int .u32 0, .int .u32 0, .int .i64 0, .int .i64 0, .int .i64 0, .int .i64 0, .int .i64 0, .int .i64 0, .slice none 0 0, .slice none 0 0, .slice none 0 0, .int .i64 0, .int .i64 0] _ _ HZ4.out) ?r5 ?_
      case r1 => rfl
      case r2 => rfl
      case r3 => rfl
      case r4 => rfl
      case r5 => rfl
      exact .inr ⟨HNO.out, Im.zero, none, none, none, 0, 0, 0, rfl, below_setRow_ HB4.out (by omega)⟩
    have HM : Hid (bs.take 4 = magic) := by unfold RowKit.Hid; exact of_decide_eq_true HMQ.out.symm
    go_wp2_with fail
    clear ck
    obtain ⟨gm, hgm⟩ : ∃ g, g = w4.heap.size := ⟨_, rfl⟩
    obtain ⟨W5, hW5⟩ : ∃ W, W = w4.alloc (.cells #[.int .u32 0, .int .u32 0, .int .i64 0, .int .i64 0, .int .i64 0, .int .i64 0, .int .i64 0, .int .i64 0, .slice none 0 0, .slice none 0 0, .slice none 0 0, .int .i64 0, .int .i64 0] 28) := ⟨_, rfl⟩
    rw [← hW5, ← hgm]
    have HS0 : Hid (IS w W5 ga gk gm A c bs 4 true #[.int .u32 0, .int .u32 0, .int .i64 0, .int .i64 0, .int .i64 0, .int .i64 0, .int .i64 0, .int .i64 0, .slice none 0 0, .slice none 0 0, .slice none 0 0, .int .i64 0, .int .i64 0]) := by
      unfold RowKit.Hid
      have la := (Array.getElem?_eq_some_iff.1 HRA.out).1
      have lk := (Array.getElem?_eq_some_iff.1 HRK.out).1
      have lg := (Array.getElem?_eq_some_iff.1 HG4.out).1
      have lz := (Array.getElem?_eq_some_iff.1 HZ4.out).1
      have hold : ∀ b o s, A = some ⟨b, o, s⟩ → b < w.heap.size := fun b o s e => by
        obtain ⟨b', off', e', hcc⟩ := HA.out 0 (by omega)
        have hlt := World.block_lt_of_cell? _ _ hcc
        rw [e] at e'
        simp only [Option.some.injEq, Addr.mk.injEq] at e'
        dsimp only at hlt
        omega
      have hbn := HB4.out.alloc HB4.out.size (.cells #[.int .u32 0, .int .u32 0, .int .i64 0, .int .i64 0, .int .i64 0, .int .i64 0, .int .i64 0, .int .i64 0, .slice none 0 0, .slice none 0 0, .slice none 0 0, .int .i64 0, .int .i64 0] 28)
      rw [← hW5] at hbn
      refine { rd := { rb := ?_, ra := ?_, rk := ?_, at_ := HA.out.below hbn (Nat.le_refl _), off := fun b o s e => by have := hold b o s e; omega, d1 := by omega, d2 := by omega, d3 := hgak, cap := hc, len := hn, le := h4 }, im := ?_, rs := ?_, bel := hbn, lo := by omega, old := hold }
      · rw [hW5]; exact (heap_alloc_old _ _ lg).trans HG4.out
      · rw [hW5]; exact (heap_alloc_old _ _ la).trans HRA.out
      · rw [hW5]; exact (heap_alloc_old _ _ lk).trans HRK.out
      · rw [hW5, hgm]; exact heap_alloc_new _ _
      · rw [hW5]; exact (heap_alloc_old _ _ lz).trans HZ4.out
    have hgms : w.heap.size + 1 < gm := HS0.out.lo.2.2.1
    clear hW5 hgm HRA HRK HG4 HZ4 HB4 hga hgk hz4 hz0 hgak
    by_cases h21 : 21 ≤ bs.length
    · refine (iget_ok HS0.out 4 8 (by omega) (by omega) rfl (by omega)).mono ?_
      rintro e wg0 ⟨n0, hn, hlt0, rfl, hs⟩
      have HN0 := Lib.hid hn
      have HG0 := Lib.hid hs
      have cj : wg0.cell? ⟨gm, 0, none⟩ = some (.int .u32 0) := cell_of_row _ _ 0 _ _ (0, 0) hs.im
      have fj : wg0.frozen? ⟨gm, 0, none⟩ = false := frozen_of_row _ _ _ _ _ hs.im
      clear hs HS0 hn
      go_wp2_with fail
      clear cj fj
      obtain ⟨W1, hW1⟩ : ∃ W, W = wg0.setCell ⟨gm, 0, none⟩ (.int .u32 (n0 : Int)) := ⟨_, rfl⟩
      rw [← hW1]
      have HS1 : Hid (IS w W1 ga gk gm A c bs 8 true #[.int .u32 (n0 : Int), .int .u32 0, .int .i64 0, .int .i64 0, .int .i64 0, .int .i64 0, .int .i64 0, .int .i64 0, .slice none 0 0, .slice none 0 0, .slice none 0 0, .int .i64 0, .int .i64 0]) := by unfold RowKit.Hid; rw [hW1]; have := HG0.out.set 0 (.int .u32 (n0 : Int)); simpa using this
      clear hW1 HG0
      refine (iget_ok HS1.out 4 12 (by omega) (by omega) rfl (by omega)).mono ?_
      rintro e wg1 ⟨n1, hn, hlt1, rfl, hs⟩
      have HN1 := Lib.hid hn
      have HG1 := Lib.hid hs
      have cj : wg1.cell? ⟨gm, 1, none⟩ = some (.int .u32 0) := cell_of_row _ _ 1 _ _ (0, 0) hs.im
      have fj : wg1.frozen? ⟨gm, 1, none⟩ = false := frozen_of_row _ _ _ _ _ hs.im
      clear hs HS1 hn
      go_wp2_with fail
      clear cj fj
      obtain ⟨W2, hW2⟩ : ∃ W, W = wg1.setCell ⟨gm, 1, none⟩ (.int .u32 (n1 : Int)) := ⟨_, rfl⟩
      rw [← hW2]
      have HS2 : Hid (IS w W2 ga gk gm A c bs 12 true #[.int .u32 (n0 : Int), .int .u32 (n1 : Int), .int .i64 0, .int .i64 0, .int .i64 0, .int .i64 0, .int .i64 0, .int .i64 0, .slice none 0 0, .slice none 0 0, .slice none 0 0, .int .i64 0, .int .i64 0]) := by unfold RowKit.Hid; rw [hW2]; have := HG1.out.set 1 (.int .u32 (n1 : Int)); simpa using this
      clear hW2 HG1
      refine (iget_ok HS2.out 1 13 (by omega) (by omega) rfl (by omega)).mono ?_
      rintro e wg2 ⟨n2, hn, hlt2, rfl, hs⟩
      have HN2 := Lib.hid hn
      have HG2 := Lib.hid hs
      have cj : wg2.cell? ⟨gm, 2, none⟩ = some (.int .i64 0) := cell_of_row _ _ 2 _ _ (0, 0) hs.im
      have fj : wg2.frozen? ⟨gm, 2, none⟩ = false := frozen_of_row _ _ _ _ _ hs.im
      clear hs HS2 hn
      go_wp2_with fail
      clear cj fj
      obtain ⟨W3, hW3⟩ : ∃ W, W = wg2.setCell ⟨gm, 2, none⟩ (.int .i64 (n2 : Int)) := ⟨_, rfl⟩
      rw [← hW3]
      have HS3 : Hid (IS w W3 ga gk gm A c bs 13 true #[.int .u32 (n0 : Int), .int .u32 (n1 : Int), .int .i64 (n2 : Int), .int .i64 0, .int .i64 0, .int .i64 0, .int .i64 0, .int .i64 0, .slice none 0 0, .slice none 0 0, .slice none 0 0, .int .i64 0, .int .i64 0]) := by unfold RowKit.Hid; rw [hW3]; have := HG2.out.set 2 (.int .i64 (n2 : Int)); simpa using this
      clear hW3 HG2
      refine (iget_ok HS3.out 1 14 (by omega) (by omega) rfl (by omega)).mono ?_
      rintro e wg3 ⟨n3, hn, hlt3, rfl, hs⟩
      have HN3 := Lib.hid hn
      have HG3 := Lib.hid hs
      have cj : wg3.cell? ⟨gm, 3, none⟩ = some (.int .i64 0) := cell_of_row _ _ 3 _ _ (0, 0) hs.im
      have fj : wg3.frozen? ⟨gm, 3, none⟩ = false := frozen_of_row _ _ _ _ _ hs.im
      clear hs HS3 hn
      go_wp2_with fail
      clear cj fj
      obtain ⟨W4, hW4⟩ : ∃ W, W = wg3.setCell ⟨gm, 3, none⟩ (.int .i64 (n3 : Int)) := ⟨_, rfl⟩
      rw [← hW4]
      have HS4 : Hid (IS w W4 ga gk gm A c bs 14 true #[.int .u32 (n0 : Int), .int .u32 (n1 : Int), .int .i64 (n2 : Int), .int .i64 (n3 : Int), .int .i64 0, .int .i64 0, .int .i64 0, .int .i64 0, .slice none 0 0, .slice none 0 0, .slice none 0 0, .int .i64 0, .int .i64 0]) := by unfold RowKit.Hid; rw [hW4]; have := HG3.out.set 3 (.int .i64 (n3 : Int)); simpa using this
      clear hW4 HG3
      refine (iget_ok HS4.out 1 15 (by omega) (by omega) rfl (by omega)).mono ?_
      rintro e wg4 ⟨n4, hn, hlt4, rfl, hs⟩
      have HN4 := Lib.hid hn
      have HG4 := Lib.hid hs
      have cj : wg4.cell? ⟨gm, 5, none⟩ = some (.int .i64 0) := cell_of_row _ _ 5 _ _ (0, 0) hs.im
      have fj : wg4.frozen? ⟨gm, 5, none⟩ = false := frozen_of_row _ _ _ _ _ hs.im
      clear hs HS4 hn
      have hgm4 : ((wg4.setCell ⟨gm, 5, none⟩ (.int .i64 (n4 : Int)))).cell? ⟨gm, 4, none⟩ = some (.int .i64 0) := by rw [cell_of_row _ _ 4 _ _ (0, 0) (heap_setCell_same _ gm 5 _ _ _ HG4.out.im)]; rfl
      have hgm5 : ((wg4.setCell ⟨gm, 5, none⟩ (.int .i64 (n4 : Int)))).cell? ⟨gm, 5, none⟩ = some (.int .i64 (n4 : Int)) := by rw [cell_of_row _ _ 5 _ _ (0, 0) (heap_setCell_same _ gm 5 _ _ _ HG4.out.im)]; rfl
      have hgf4 : ((wg4.setCell ⟨gm, 5, none⟩ (.int .i64 (n4 : Int)))).frozen? ⟨gm, 4, none⟩ = false := frozen_of_row _ _ _ _ _ (heap_setCell_same _ gm 5 _ _ _ HG4.out.im)
      go_wp2_with fail
      clear cj fj hgm4 hgm5 hgf4
      obtain ⟨W5, hW5⟩ : ∃ W, W = (wg4.setCell ⟨gm, 5, none⟩ (.int .i64 (n4 : Int))).setCell ⟨gm, 4, none⟩ (.int .i64 (n4 : Int)) := ⟨_, rfl⟩
      rw [← hW5]
      have HS5 : Hid (IS w W5 ga gk gm A c bs 15 true #[.int .u32 (n0 : Int), .int .u32 (n1 : Int), .int .i64 (n2 : Int), .int .i64 (n3 : Int), .int .i64 (n4 : Int), .int .i64 (n4 : Int), .int .i64 0, .int .i64 0, .slice none 0 0, .slice none 0 0, .slice none 0 0, .int .i64 0, .int .i64 0]) := by unfold RowKit.Hid; rw [hW5]; have := (HG4.out.set 5 (.int .i64 (n4 : Int))).set 4 (.int .i64 (n4 : Int)); simpa using this
      clear hW5 HG4
      refine (iget_ok HS5.out 1 16 (by omega) (by omega) rfl (by omega)).mono ?_
      rintro e wg5 ⟨n5, hn, hlt5, rfl, hs⟩
      have HN5 := Lib.hid hn
      have HG5 := Lib.hid hs
      have cj : wg5.cell? ⟨gm, 6, none⟩ = some (.int .i64 0) := cell_of_row _ _ 6 _ _ (0, 0) hs.im
      have fj : wg5.frozen? ⟨gm, 6, none⟩ = false := frozen_of_row _ _ _ _ _ hs.im
      clear hs HS5 hn
      go_wp2_with fail
      clear cj fj
      obtain ⟨W6, hW6⟩ : ∃ W, W = wg5.setCell ⟨gm, 6, none⟩ (.int .i64 (n5 : Int)) := ⟨_, rfl⟩
      rw [← hW6]
      have HS6 : Hid (IS w W6 ga gk gm A c bs 16 true #[.int .u32 (n0 : Int), .int .u32 (n1 : Int), .int .i64 (n2 : Int), .int .i64 (n3 : Int), .int .i64 (n4 : Int), .int .i64 (n4 : Int), .int .i64 (n5 : Int), .int .i64 0, .slice none 0 0, .slice none 0 0, .slice none 0 0, .int .i64 0, .int .i64 0]) := by unfold RowKit.Hid; rw [hW6]; have := HG5.out.set 6 (.int .i64 (n5 : Int)); simpa using this
      clear hW6 HG5
      refine (iget_ok HS6.out 1 17 (by omega) (by omega) rfl (by omega)).mono ?_
      rintro e wg6 ⟨n6, hn, hlt6, rfl, hs⟩
      have HN6 := Lib.hid hn
      have HG6 := Lib.hid hs
      have cj : wg6.cell? ⟨gm, 7, none⟩ = some (.int .i64 0) := cell_of_row _ _ 7 _ _ (0, 0) hs.im
      have fj : wg6.frozen? ⟨gm, 7, none⟩ = false := frozen_of_row _ _ _ _ _ hs.im
      clear hs HS6 hn
      go_wp2_with fail
      clear cj fj
      obtain ⟨W7, hW7⟩ : ∃ W, W = wg6.setCell ⟨gm, 7, none⟩ (.int .i64 (n6 : Int)) := ⟨_, rfl⟩
      rw [← hW7]
      have HS7 : Hid (IS w W7 ga gk gm A c bs 17 true #[.int .u32 (n0 : Int), .int .u32 (n1 : Int), .int .i64 (n2 : Int), .int .i64 (n3 : Int), .int .i64 (n4 : Int), .int .i64 (n4 : Int), .int .i64 (n5 : Int), .int .i64 (n6 : Int), .slice none 0 0, .slice none 0 0, .slice none 0 0, .int .i64 0, .int .i64 0]) := by unfold RowKit.Hid; rw [hW7]; have := HG6.out.set 7 (.int .i64 (n6 : Int)); simpa using this
      clear hW7 HG6
      refine (iget_ok HS7.out 2 19 (by omega) (by omega) rfl (by omega)).mono ?_
      rintro e wg7 ⟨n7, hn, hlt7, rfl, hs⟩
      have HN7 := Lib.hid hn
      have HG7 := Lib.hid hs
      have cj : wg7.cell? ⟨gm, 11, none⟩ = some (.int .i64 0) := cell_of_row _ _ 11 _ _ (0, 0) hs.im
      have fj : wg7.frozen? ⟨gm, 11, none⟩ = false := frozen_of_row _ _ _ _ _ hs.im
      clear hs HS7 hn
      go_wp2_with fail
      clear cj fj
      obtain ⟨W8, hW8⟩ : ∃ W, W = wg7.setCell ⟨gm, 11, none⟩ (.int .i64 (n7 : Int)) := ⟨_, rfl⟩
      rw [← hW8]
      have HS8 : Hid (IS w W8 ga gk gm A c bs 19 true #[.int .u32 (n0 : Int), .int .u32 (n1 : Int), .int .i64 (n2 : Int), .int .i64 (n3 : Int), .int .i64 (n4 : Int), .int .i64 (n4 : Int), .int .i64 (n5 : Int), .int .i64 (n6 : Int), .slice none 0 0, .slice none 0 0, .slice none 0 0, .int .i64 (n7 : Int), .int .i64 0]) := by unfold RowKit.Hid; rw [hW8]; have := HG7.out.set 11 (.int .i64 (n7 : Int)); simpa using this
      clear hW8 HG7
      refine (iget_ok HS8.out 2 21 (by omega) (by omega) rfl (by omega)).mono ?_
      rintro e wg8 ⟨n8, hn, hlt8, rfl, hs⟩
      have HN8 := Lib.hid hn
      have HG8 := Lib.hid hs
      have cj : wg8.cell? ⟨gm, 12, none⟩ = some (.int .i64 0) := cell_of_row _ _ 12 _ _ (0, 0) hs.im
      have fj : wg8.frozen? ⟨gm, 12, none⟩ = false := frozen_of_row _ _ _ _ _ hs.im
      clear hs HS8 hn
      go_wp2_with fail
      clear cj fj
      obtain ⟨W9, hW9⟩ : ∃ W, W = wg8.setCell ⟨gm, 12, none⟩ (.int .i64 (n8 : Int)) := ⟨_, rfl⟩
      rw [← hW9]
      have HS9 : Hid (IS w W9 ga gk gm A c bs 21 true #[.int .u32 (n0 : Int), .int .u32 (n1 : Int), .int .i64 (n2 : Int), .int .i64 (n3 : Int), .int .i64 (n4 : Int), .int .i64 (n4 : Int), .int .i64 (n5 : Int), .int .i64 (n6 : Int), .slice none 0 0, .slice none 0 0, .slice none 0 0, .int .i64 (n7 : Int), .int .i64 (n8 : Int)]) := by unfold RowKit.Hid; rw [hW9]; have := HG8.out.set 12 (.int .i64 (n8 : Int)); simpa using this
      clear hW9 HG8
      refine (irun HS9.out).mono ?_
      rintro e wr1 ⟨B1, d1, rfl, hx1, ho1, hs, hk⟩
      have HX1 := Lib.hid hx1
      have HO1 := Lib.hid ho1
      have HS10 := Lib.hid hs
      have hz9 := HS9.out.bel.size
      have HL9 : Hid (ga < W9.heap.size ∧ gk < W9.heap.size ∧ gm < W9.heap.size) := ⟨(Array.getElem?_eq_some_iff.1 HS9.out.rd.ra).1, (Array.getElem?_eq_some_iff.1 HS9.out.rd.rk).1, (Array.getElem?_eq_some_iff.1 HS9.out.im).1⟩
      clear hx1 ho1 hs hk HS9
      generalize hrv1 : rnv bs 21 = x1 at *
      have HV1 := Lib.hid hrv1
      clear hrv1
      go_wp2_with fail
      refine (irun HS10.out).mono ?_
      rintro e wr2 ⟨B2, d2, rfl, hx2, ho2, hs, hk⟩
      have HX1b := Lib.hid (src_k2 HX1.out hk (fun b o s e => by have := HO1.out b o s e; have := HL9.out; omega))
      have HX2 := Lib.hid hx2
      have HO2 := Lib.hid ho2
      have HS11 := Lib.hid hs
      have hz10 := HS10.out.bel.size
      have HL10 : Hid (ga < wr1.heap.size ∧ gk < wr1.heap.size ∧ gm < wr1.heap.size) := ⟨(Array.getElem?_eq_some_iff.1 HS10.out.rd.ra).1, (Array.getElem?_eq_some_iff.1 HS10.out.rd.rk).1, (Array.getElem?_eq_some_iff.1 HS10.out.im).1⟩
      clear hx2 ho2 hs hk HS10 HX1
      generalize hrv2 : rnv bs (rnq bs 21) = x2 at *
      have HV2 := Lib.hid hrv2
      clear hrv2
      go_wp2_with fail
      refine (irun HS11.out).mono ?_
      rintro e wr3 ⟨B3, d3, rfl, hx3, ho3, hs, hk⟩
      have HX1c := Lib.hid (src_k2 HX1b.out hk (fun b o s e => by have := HO1.out b o s e; have := HL9.out; omega))
      have HX2c := Lib.hid (src_k2 HX2.out hk (fun b o s e => by have := HO2.out b o s e; have := HL10.out; omega))
      have HO3 := Lib.hid ho3
      have HL11x : Hid (gm < wr2.heap.size) := (Array.getElem?_eq_some_iff.1 HS11.out.im).1
      have HX3 := Lib.hid hx3
      have HS12 := Lib.hid hs
      clear hx3 ho3 hs hk HS11 HX1b HX2
      generalize hrv3 : rnv bs (rnq bs (rnq bs 21)) = x3 at *
      have HV3 := Lib.hid hrv3
      clear hrv3
      have hrd := rd_eq HM.out h21
      rw [HV1.out, HV2.out, HV3.out] at hrd
      have hs12 := HS12.out
      generalize rnb bs (rnq bs (rnq bs 21)) (rnb bs (rnq bs 21) (rnb bs 21 true)) = bb at hrd hs12
      generalize rnq bs (rnq bs (rnq bs 21)) = qq at hrd hs12
      have HRD := Lib.hid hrd
      have ck : wr3.cell? ⟨gk, 0, none⟩ = some (.bool bb) := cell_of_row _ _ 0 _ _ (0, 0) hs12.rd.rk
      have ca : wr3.cell? ⟨ga, 0, none⟩ = some (.int .i64 (qq : Int)) := cell_of_row _ _ 0 _ _ (0, 0) hs12.rd.ra
      have cb : wr3.cell? ⟨w.heap.size, 0, none⟩ = some (.slice A bs.length c) := cell_of_row _ _ 0 _ _ (0, 0) hs12.rd.rb
      have HZ12 := Lib.hid hs12.rs
      have HB12 := Lib.hid hs12.bel
      have HI12 := Lib.hid hs12.im
      have hz12 := HB12.out.size
      have hgm12 : gm < wr3.heap.size := (Array.getElem?_eq_some_iff.1 HI12.out).1
      have hlx1 : x1.length ≤ 1000000 := by rw [← HV1.out]; exact rnv_len bs 21 hn
      have hlx2 : x2.length ≤ 1000000 := by rw [← HV2.out]; exact rnv_len bs _ hn
      have hlx3 : x3.length ≤ 1000000 := by rw [← HV3.out]; exact rnv_len bs _ hn
      clear hrd hs12 HS12
      cases bb
      case false =>
        have HNO : Hid (rd bs = none) := by unfold RowKit.Hid; rw [HRD.out, if_neg (fun h => by have := h.1; cases this)]
        go_wp2_with (refine wpList_store_row rfl 28 (.tmp 2) (.tmp 88) rfl (w.heap.size + 1) _ rfl rfl _ _ HZ12.out infoImS rfl zrow_one ?_)
        refine ret_im (v := .bool false) 2 3 ?r1 ?r2 ?r3 ?r4 (setRow_heap _ _ _ #[.int .u32 0, .int .u32 0, .int .i64 0, .int .i64 0, .int .i64 0, .int .i64 0, .int .i64 0, .int .i64 0, .slice none 0 0, .slice none 0 0, .slice none 0 0, .int .i64 0, .int .i64 0] _ _ HZ12.out) ?r5 ?_
        case r1 => rfl
        case r2 => rfl
        case r3 => rfl
        case r4 => rfl
        case r5 => rfl
        exact .inr ⟨HNO.out, Im.zero, none, none, none, 0, 0, 0, rfl, below_setRow_ HB12.out (by omega)⟩
      by_cases hqn : qq = bs.length
      case neg =>
        have HNO : Hid (rd bs = none) := by unfold RowKit.Hid; rw [HRD.out, if_neg (fun h => hqn h.2.1)]
        have bq : ((qq : Int) != (bs.length : Int)) = true := by simp; omega
        clear hqn
        go_wp2_with (refine wpList_store_row rfl 28 (.tmp 2) (.tmp 88) rfl (w.heap.size + 1) _ rfl rfl _ _ HZ12.out infoImS rfl zrow_one ?_)
        refine ret_im (v := .bool false) 2 3 ?r1 ?r2 ?r3 ?r4 (setRow_heap _ _ _ #[.int .u32 0, .int .u32 0, .int .i64 0, .int .i64 0, .int .i64 0, .int .i64 0, .int .i64 0, .int .i64 0, .slice none 0 0, .slice none 0 0, .slice none 0 0, .int .i64 0, .int .i64 0] _ _ HZ12.out) ?r5 ?_
        case r1 => rfl
        case r2 => rfl
        case r3 => rfl
        case r4 => rfl
        case r5 => rfl
        exact .inr ⟨HNO.out, Im.zero, none, none, none, 0, 0, 0, rfl, below_setRow_ HB12.out (by omega)⟩
      have bq : ((qq : Int) != (bs.length : Int)) = false := by simp; omega
      by_cases hx4 : x1.length % 4 = 0
      case neg =>
        have HNO : Hid (rd bs = none) := by unfold RowKit.Hid; rw [HRD.out, if_neg (fun h => hx4 h.2.2.1)]
        have b4 : ((x1.length : Int) % 4 != 0) = true := by rw [bne_iff_ne]; omega
        clear hqn hx4
        go_wp2_with (refine wpList_store_row rfl 28 (.tmp 2) (.tmp 88) rfl (w.heap.size + 1) _ rfl rfl _ _ HZ12.out infoImS rfl zrow_one ?_)
        refine ret_im (v := .bool false) 2 3 ?r1 ?r2 ?r3 ?r4 (setRow_heap _ _ _ #[.int .u32 0, .int .u32 0, .int .i64 0, .int .i64 0, .int .i64 0, .int .i64 0, .int .i64 0, .int .i64 0, .slice none 0 0, .slice none 0 0, .slice none 0 0, .int .i64 0, .int .i64 0] _ _ HZ12.out) ?r5 ?_
        case r1 => rfl
        case r2 => rfl
        case r3 => rfl
        case r4 => rfl
        case r5 => rfl
        exact .inr ⟨HNO.out, Im.zero, none, none, none, 0, 0, 0, rfl, below_setRow_ HB12.out (by omega)⟩
      have b4 : ((x1.length : Int) % 4 != 0) = false := by rw [bne_eq_false_iff_eq]; omega
      have HRD2 : Hid (rd bs = if (Ia.decode x2).2.1 = 0 ∧ (Ia.decode x3).2.1 = 0 then some (imOf bs x1 x2 x3) else none) := by
        unfold RowKit.Hid
        rw [HRD.out]
        by_cases h : (Ia.decode x2).2.1 = 0 ∧ (Ia.decode x3).2.1 = 0
        · rw [if_pos h, if_pos ⟨rfl, hqn, hx4, h⟩]
        · rw [if_neg h, if_neg (fun hh => h hh.2.2.2)]
      obtain ⟨nf, hnf⟩ : ∃ k, x1.length = 4 * k := ⟨x1.length / 4, by omega⟩
      have HNF := Lib.hid hnf
      have hnfb : nf ≤ 100000 := by have : x1.length ≤ 65536 := by rw [← HV1.out]; exact rnv_small bs 21
                                    omega
      have HW := Lib.hid (octwords x1 nf B1 d1 wr3 (BSrc.at_ HX1c.out) hnf hnfb)
      clear hqn hx4 hnf HRD
      go_wp2_with fail
      clear ck ca cb bq b4
      refine HW.out.mono ?_
      rintro e Wl ⟨vw, rfl, hownw, hbw⟩
      obtain ⟨Aw, cw, rfl⟩ := own_slice hownw
      have HOW := Lib.hid hownw
      have HIl := Lib.hid ((hbw.block _ hgm12).trans HI12.out)
      have HZl := Lib.hid ((hbw.block _ (Array.getElem?_eq_some_iff.1 HZ12.out).1).trans HZ12.out)
      have HBl := Lib.hid (HB12.out.trans (hbw.mono hz12))
      have HX2l := Lib.hid (HX2c.out.below hbw (Nat.le_refl _))
      have HX3l := Lib.hid (HX3.out.below hbw (Nat.le_refl _))
      have hzl := hbw.size
      have HL11 : Hid (∀ b o s, B2 = some ⟨b, o, s⟩ → b ≠ gm) := fun b o s e => by have := HO2.out b o s e; have := HL10.out; omega
      have HL12 : Hid (∀ b o s, B3 = some ⟨b, o, s⟩ → b ≠ gm) := fun b o s e => by have := HO3.out b o s e; have := HL11x.out; omega
      clear hownw hbw HW HX1c HX2c HX3 HZ12 HB12 HI12 HO1 HO2 HO3 HL9 HL10 HL11x
      obtain ⟨ws, hws⟩ : ∃ l, l = wordsN x1 := ⟨_, rfl⟩
      have hwl : ws.length = nf := by rw [hws]; exact wordsN_len nf x1 HNF.out
      have hwb : ∀ u ∈ ws, u < 4294967296 := by rw [hws]; exact wordsN_lt x1
      rw [← hws] at HOW
      have HWS := Lib.hid hws
      have HWL := Lib.hid hwl
      have HWB := Lib.hid hwb
      clear hws hwl hwb
      go_wp2_with fail
      go_loopw [92] (fun i wr => ∃ (k : Nat) (V : Value), k ≤ nf ∧ i = .int .i64 k ∧ Hid (wr.ownsRow Wl.heap.size 21 1 V k (icells ((ws.take k).map Ia.signedN))) ∧ Hid (wr.heap[gm]? = some (.cells #[.int .u32 (n0 : Int), .int .u32 (n1 : Int), .int .i64 (n2 : Int), .int .i64 (n3 : Int), .int .i64 (n4 : Int), .int .i64 (n4 : Int), .int .i64 (n5 : Int), .int .i64 (n6 : Int), V, .slice none 0 0, .slice none 0 0, .int .i64 (n7 : Int), .int .i64 (n8 : Int)] 28 (0, 0))) ∧ Hid (ImraF Wl.heap.size gm Wl wr)) (fun i _ => nf - (intOf i).toNat)
      case atStart => exact ⟨0, .slice none 0 0, Nat.zero_le _, rfl, World.ownsRow_nil _ _ _ _, HIl, ⟨rfl, rfl, rfl, Nat.le_refl _, fun _ _ _ => rfl⟩⟩
      case round =>
        obtain ⟨k, V, hk, rfl, hO, hR, hF⟩ := hrel
        by_cases hlt : k < nf
        · have hku : k < ws.length := by rw [HWL.out]; exact hlt
          have ce : wr.cell? ⟨(Aw.map (·.block)).getD 0, k, none⟩ = some (.int .u32 ((ws[k]'hku : Nat) : Int)) ∧ Aw = some ⟨(Aw.map (·.block)).getD 0, 0, none⟩ := by
            obtain ⟨gw, cap, e, hb0, hb1⟩ := HOW.out.form (by omega)
            injection e with e _ _
            subst e
            refine ⟨?_, rfl⟩
            have hc := HOW.out.cells (g := gw) rfl k _ (ucells_at ws k hku)
            rw [add_at] at hc
            show wr.cell? ⟨gw, k, none⟩ = _
            rw [cell_same (hF.out.block gw hb1 (by omega)) k]
            exact hc
          obtain ⟨ce, hAw⟩ := ce
          generalize (Aw.map (·.block)).getD 0 = gw at ce hAw
          obtain rfl := hAw
          have hub := HWB.out _ (List.getElem_mem hku)
          have HXV : Hid (icells ((ws.take (k + 1)).map Ia.signedN) = icells ((ws.take k).map Ia.signedN) ++ [.int .i32 (Ia.signedN (ws[k]'hku))]) := by
            unfold RowKit.Hid
            rw [List.take_succ_eq_append_getElem hku, List.map_append]
            simp [icells]
          generalize ws[k]'hku = u at *
          have HUB := Lib.hid hub
          clear hub
          go_wp2_with fail
          refine wp_region_any (by kernel_rfl) ?_
          refine wpAny_by (ops' := imraOps) (by kernel_rfl) ?_
          refine imraRegion _ wr ?hs gm k Wl.heap.size #[.int .u32 (n0 : Int), .int .u32 (n1 : Int), .int .i64 (n2 : Int), .int .i64 (n3 : Int), .int .i64 (n4 : Int), .int .i64 (n4 : Int), .int .i64 (n5 : Int), .int .i64 (n6 : Int), V, .slice none 0 0, .slice none 0 0, .int .i64 (n7 : Int), .int .i64 (n8 : Int)] V (icells ((ws.take k).map Ia.signedN)) (Ia.signedN u) rfl rfl (by omega) hF.out.size (by omega) hR.out hO.out u HUB.out rfl rfl rfl ?_
          case hs => simp
          rintro vs w9 ⟨hf9, _, _, _, _, _, ho9, hr9⟩
          have ho9 := ho9 rfl
          rw [if_pos rfl] at hr9
          rw [← HXV.out] at ho9
          simp only [List.setIfInBounds_toArray, List.set_cons_zero, List.set_cons_succ] at hr9
          simp only [imraSlots, List.foldl_cons, List.foldl_nil]
          simp only [imraVal]
          simp only [Act.put, List.setIfInBounds_toArray, List.set_cons_zero, List.set_cons_succ]
          have HO9 := Lib.hid ho9
          have HR9 := Lib.hid hr9
          have HF9 : Hid (ImraF Wl.heap.size gm Wl w9) := ⟨hf9.os.trans hF.out.os, hf9.tape.trans hF.out.tape, hf9.output.trans hF.out.output, Nat.le_trans hF.out.size hf9.size, fun b h1 h2 => (hf9.block b h1 h2).trans (hF.out.block b h1 h2)⟩
          clear ho9 hr9 hf9
          go_wp2_with fail
          go_roundw
          case rel => exact ⟨k + 1, vs 101, by omega, by go_num, HO9, HR9, HF9⟩
          case measure => simp [intOf]; omega
        · obtain rfl : nf = k := by omega
          have ho := hO.out
          rw [List.take_of_length_le (by rw [HWL.out]; exact Nat.le_refl _)] at ho
          obtain ⟨A1, c1, rfl⟩ := own_slice ho
          have HO1 := Lib.hid ho
          have hzw := HBl.out.size
          have hwr := hF.out.size
          have hgl : gm < Wl.heap.size := by omega
          have hzl1 : w.heap.size + 1 < Wl.heap.size := (Array.getElem?_eq_some_iff.1 HZl.out).1
          have HX2m := Lib.hid (src_same HX2l.out (fun b o s e hb => hF.out.block b hb (HL11.out b o s e)))
          have HX3m := Lib.hid (src_same HX3l.out (fun b o s e hb => hF.out.block b hb (HL12.out b o s e)))
          have HZm := Lib.hid ((hF.out.block (w.heap.size + 1) hzl1 (by omega)).trans HZl.out)
          have HBm : Hid (Below w.heap.size w wr) := ⟨hF.out.os.trans HBl.out.os, hF.out.tape.trans HBl.out.tape, hF.out.output.trans HBl.out.output, by omega, fun b hb => (hF.out.block b (by omega) (by omega)).trans (HBl.out.block b hb)⟩
          have HRm : Hid (wr.heap[gm]? = some (.cells #[.int .u32 (n0 : Int), .int .u32 (n1 : Int), .int .i64 (n2 : Int), .int .i64 (n3 : Int), .int .i64 (n4 : Int), .int .i64 (n4 : Int), .int .i64 (n5 : Int), .int .i64 (n6 : Int), .slice A1 nf c1, .slice none 0 0, .slice none 0 0, .int .i64 (n7 : Int), .int .i64 (n8 : Int)] 28 (0, 0))) := hR.out
          clear ho hO hR hF HZl HBl HX2l HX3l HIl HOW
          have hd2 := isadecode x2 B2 d2 wr (BSrc.at_ HX2m.out) (by omega)
          generalize hde2 : Ia.decode x2 = r2 at hd2
          obtain ⟨l2, e2, p2⟩ := r2
          dsimp only at hd2
          have HD2 := Lib.hid hd2
          have HDE2 := Lib.hid hde2
          clear hd2 hde2
          go_wp2_with fail
          refine HD2.out.mono ?_
          rintro e wd2 ⟨v2, rfl, hown2, hb2⟩
          obtain ⟨A2, c2, rfl⟩ := own_slice hown2
          have HO1b := Lib.hid (own_below HO1.out hb2)
          have HO2b := Lib.hid (own_base hown2 (show Wl.heap.size ≤ wr.heap.size by omega))
          have HX3b := Lib.hid (Src.below HX3m.out hb2 (Nat.le_refl _))
          have HZb := Lib.hid ((hb2.block _ (Array.getElem?_eq_some_iff.1 HZm.out).1).trans HZm.out)
          have hrow2 := (hb2.block _ (Array.getElem?_eq_some_iff.1 HRm.out).1).trans HRm.out
          have HRb := Lib.hid hrow2
          have HBb := Lib.hid (HBm.out.trans (hb2.mono HBm.out.size))
          have cj : wd2.cell? ⟨gm, 9, none⟩ = some (.slice none 0 0) := cell_of_row _ _ 9 _ _ (0, 0) hrow2
          have fj : wd2.frozen? ⟨gm, 9, none⟩ = false := frozen_of_row _ _ _ _ _ hrow2
          have hw2 := hb2.size
          clear hown2 hb2 hrow2 HO1 HX3m HZm HRm HBm HD2 HX2m
          have hd3 := fun W h => isadecode x3 B3 d3 W h (by omega)
          generalize hde3 : Ia.decode x3 = r3 at hd3
          obtain ⟨l3, e3, p3⟩ := r3
          dsimp only at hd3
          have HD3 := Lib.hid hd3
          have HDE3 := Lib.hid hde3
          clear hd3 hde3
          go_wp2_with fail
          clear cj fj
          obtain ⟨W6, hW6⟩ : ∃ W, W = wd2.setCell ⟨gm, 9, none⟩ (.slice A2 l2.length c2) := ⟨_, rfl⟩
          rw [← hW6]
          have hg6 : wd2.grownBy W6 (some gm) := by rw [hW6]; exact grown_setCell _ _ _ _
          have HO1c := Lib.hid (HO1b.out.kept hg6 (.inr (fun e => by have := (HO1b.out.lt gm e).1; omega)))
          have HO2c := Lib.hid (HO2b.out.kept hg6 (.inr (fun e => by have := (HO2b.out.lt gm e).1; omega)))
          have HX3c := Lib.hid (src_same HX3b.out (fun b o s e hb => hg6.block b hb (fun h => HL12.out b o s e (by injection h))))
          have HZc := Lib.hid (other_by hg6 (show w.heap.size + 1 ≠ gm by omega) HZb.out)
          have HRc : Hid (W6.heap[gm]? = some (.cells #[.int .u32 (n0 : Int), .int .u32 (n1 : Int), .int .i64 (n2 : Int), .int .i64 (n3 : Int), .int .i64 (n4 : Int), .int .i64 (n4 : Int), .int .i64 (n5 : Int), .int .i64 (n6 : Int), .slice A1 nf c1, .slice A2 l2.length c2, .slice none 0 0, .int .i64 (n7 : Int), .int .i64 (n8 : Int)] 28 (0, 0))) := by unfold RowKit.Hid; rw [hW6]; have := heap_setCell_same _ gm 9 _ _ (.slice A2 l2.length c2) HRb.out; simpa using this
          have HBc : Hid (Below w.heap.size w W6) := by unfold RowKit.Hid; rw [hW6]; exact HBb.out.setCell (by dsimp only; omega) _
          have hw6 : wd2.heap.size ≤ W6.heap.size := hg6.size
          clear hg6 hW6 HO1b HO2b HX3b HZb HRb HBb
          refine (HD3.out _ (BSrc.at_ HX3c.out)).mono ?_
          rintro e wd3 ⟨v3, rfl, hown3, hb3⟩
          obtain ⟨A3, c3, rfl⟩ := own_slice hown3
          have HO1d := Lib.hid (own_below HO1c.out hb3)
          have HO2d := Lib.hid (own_below HO2c.out hb3)
          have HO3d := Lib.hid (own_base hown3 (show Wl.heap.size ≤ W6.heap.size by omega))
          have HZd := Lib.hid ((hb3.block _ (Array.getElem?_eq_some_iff.1 HZc.out).1).trans HZc.out)
          have hrow3 := (hb3.block _ (Array.getElem?_eq_some_iff.1 HRc.out).1).trans HRc.out
          have HRd := Lib.hid hrow3
          have HBd := Lib.hid (HBc.out.trans (hb3.mono HBc.out.size))
          have cj : wd3.cell? ⟨gm, 10, none⟩ = some (.slice none 0 0) := cell_of_row _ _ 10 _ _ (0, 0) hrow3
          have fj : wd3.frozen? ⟨gm, 10, none⟩ = false := frozen_of_row _ _ _ _ _ hrow3
          obtain ⟨W7, hW7⟩ : ∃ W, W = wd3.setCell ⟨gm, 10, none⟩ (.slice A3 l3.length c3) := ⟨_, rfl⟩
          have HW7 := Lib.hid hW7
          have hg7 : wd3.grownBy W7 (some gm) := by rw [hW7]; exact grown_setCell _ _ _ _
          have HG7 := Lib.hid hg7
          have HZ7 := Lib.hid (other_by hg7 (show w.heap.size + 1 ≠ gm by omega) HZd.out)
          have HR7 : Hid (W7.heap[gm]? = some (.cells #[.int .u32 (n0 : Int), .int .u32 (n1 : Int), .int .i64 (n2 : Int), .int .i64 (n3 : Int), .int .i64 (n4 : Int), .int .i64 (n4 : Int), .int .i64 (n5 : Int), .int .i64 (n6 : Int), .slice A1 nf c1, .slice A2 l2.length c2, .slice A3 l3.length c3, .int .i64 (n7 : Int), .int .i64 (n8 : Int)] 28 (0, 0))) := by unfold RowKit.Hid; rw [hW7]; have := heap_setCell_same _ gm 10 _ _ (.slice A3 l3.length c3) HRd.out; simpa using this
          have HB7 : Hid (Below w.heap.size w W7) := by unfold RowKit.Hid; rw [hW7]; exact HBd.out.setCell (by dsimp only; omega) _
          clear hg7 hW7
          clear hown3 hb3 hrow3 HO1c HO2c HX3c HZc HRc HBc HD3 HZd HRd HBd
          have hrd := HRD2.out
          rw [HDE2.out, HDE3.out] at hrd
          dsimp only at hrd
          have HIM : Hid (imAgg (imOf bs x1 x2 x3) A1 A2 A3 c1 c2 c3 = .agg #[.int .u32 (n0 : Int), .int .u32 (n1 : Int), .int .i64 (n2 : Int), .int .i64 (n3 : Int), .int .i64 (n4 : Int), .int .i64 (n4 : Int), .int .i64 (n5 : Int), .int .i64 (n6 : Int), .slice A1 nf c1, .slice A2 l2.length c2, .slice A3 l3.length c3, .int .i64 (n7 : Int), .int .i64 (n8 : Int)]) := by
            unfold RowKit.Hid imAgg imOf
            dsimp only
            rw [HDE2.out, HDE3.out, ← HN0.out, ← HN1.out, ← HN2.out, ← HN3.out, ← HN4.out, ← HN5.out, ← HN6.out, ← HN7.out, ← HN8.out, words4_eq, List.length_map, ← HWS.out, HWL.out]
          have HFI : Hid ((imOf bs x1 x2 x3).first = ws.map Ia.signedN) := by unfold RowKit.Hid imOf; dsimp only; rw [words4_eq, ← HWS.out]
          have HST : Hid ((imOf bs x1 x2 x3).step = l2 ∧ (imOf bs x1 x2 x3).move = l3) := by unfold RowKit.Hid imOf; dsimp only; rw [HDE2.out, HDE3.out]; exact ⟨rfl, rfl⟩
          have hone : (#[.int .u32 (n0 : Int), .int .u32 (n1 : Int), .int .i64 (n2 : Int), .int .i64 (n3 : Int), .int .i64 (n4 : Int), .int .i64 (n4 : Int), .int .i64 (n5 : Int), .int .i64 (n6 : Int), .slice A1 nf c1, .slice A2 l2.length c2, .slice A3 l3.length c3, .int .i64 (n7 : Int), .int .i64 (n8 : Int)] : Array Value).all (·.oneCell') = true := by simp [Value.oneCell']
          have HONE := Lib.hid hone
          clear hone
          go_upto_region 28 with fail
          rw [← HW7.out]
          clear cj fj
          by_cases he2 : e2 = 0
          · subst he2
            by_cases he3 : e3 = 0
            · subst he3
              have HRDF : Hid (rd bs = some (imOf bs x1 x2 x3)) := by unfold RowKit.Hid; rw [hrd, if_pos ⟨rfl, rfl⟩]
              clear hrd
              go_wp2_with (first | refine wpList_load_row rfl 28 (.tmp 8) rfl gm rfl _ _ _ _ HR7.out Try.underlying28 rfl infoImS ?_ | refine wpList_store_row rfl 28 (.tmp 2) (.tmp 118) rfl (w.heap.size + 1) _ rfl rfl _ _ HZ7.out infoImS rfl HONE.out ?_)
              refine ret_im (v := .bool true) 2 3 ?r1 ?r2 ?r3 ?r4 (setRow_heap _ _ _ #[.int .u32 (n0 : Int), .int .u32 (n1 : Int), .int .i64 (n2 : Int), .int .i64 (n3 : Int), .int .i64 (n4 : Int), .int .i64 (n4 : Int), .int .i64 (n5 : Int), .int .i64 (n6 : Int), .slice A1 nf c1, .slice A2 l2.length c2, .slice A3 l3.length c3, .int .i64 (n7 : Int), .int .i64 (n8 : Int)] _ _ HZ7.out) ?r5 ?_
              case r1 => rfl
              case r2 => rfl
              case r3 => rfl
              case r4 => rfl
              case r5 => rfl
              refine .inl ⟨imOf bs x1 x2 x3, A1, A2, A3, c1, c2, c3, HRDF.out, by rw [HIM.out], ⟨?_, ?_, ?_⟩, below_setRow_ HB7.out (by omega)⟩
              · have h1 := (HO1d.out.kept HG7.out (.inr (fun e => by have := (HO1d.out.lt gm e).1; omega))).kept (grown_setRow _ (w.heap.size + 1) #[.int .u32 (n0 : Int), .int .u32 (n1 : Int), .int .i64 (n2 : Int), .int .i64 (n3 : Int), .int .i64 (n4 : Int), .int .i64 (n4 : Int), .int .i64 (n5 : Int), .int .i64 (n6 : Int), .slice A1 nf c1, .slice A2 l2.length c2, .slice A3 l3.length c3, .int .i64 (n7 : Int), .int .i64 (n8 : Int)]) (.inr (fun e => by have := (HO1d.out.lt _ e).1; omega))
                rw [HFI.out, List.length_map, HWL.out]
                exact own_base h1 (by omega)
              · have h1 := (HO2d.out.kept HG7.out (.inr (fun e => by have := (HO2d.out.lt gm e).1; omega))).kept (grown_setRow _ (w.heap.size + 1) #[.int .u32 (n0 : Int), .int .u32 (n1 : Int), .int .i64 (n2 : Int), .int .i64 (n3 : Int), .int .i64 (n4 : Int), .int .i64 (n4 : Int), .int .i64 (n5 : Int), .int .i64 (n6 : Int), .slice A1 nf c1, .slice A2 l2.length c2, .slice A3 l3.length c3, .int .i64 (n7 : Int), .int .i64 (n8 : Int)]) (.inr (fun e => by have := (HO2d.out.lt _ e).1; omega))
                rw [HST.out.1]
                exact own_base h1 (by omega)
              · have h1 := (HO3d.out.kept HG7.out (.inr (fun e => by have := (HO3d.out.lt gm e).1; omega))).kept (grown_setRow _ (w.heap.size + 1) #[.int .u32 (n0 : Int), .int .u32 (n1 : Int), .int .i64 (n2 : Int), .int .i64 (n3 : Int), .int .i64 (n4 : Int), .int .i64 (n4 : Int), .int .i64 (n5 : Int), .int .i64 (n6 : Int), .slice A1 nf c1, .slice A2 l2.length c2, .slice A3 l3.length c3, .int .i64 (n7 : Int), .int .i64 (n8 : Int)]) (.inr (fun e => by have := (HO3d.out.lt _ e).1; omega))
                rw [HST.out.2]
                exact own_base h1 (by omega)
            · have HRDF : Hid (rd bs = none) := by unfold RowKit.Hid; rw [hrd, if_neg (fun h => he3 h.2)]
              have be : (e3 == 0) = false := by simpa using he3
              clear hrd he3
              go_wp2_with (first | refine wpList_load_row rfl 28 (.tmp 8) rfl gm rfl _ _ _ _ HR7.out Try.underlying28 rfl infoImS ?_ | refine wpList_store_row rfl 28 (.tmp 2) (.tmp 118) rfl (w.heap.size + 1) _ rfl rfl _ _ HZ7.out infoImS rfl HONE.out ?_)
              refine ret_im (v := .bool false) 2 3 ?r1 ?r2 ?r3 ?r4 (setRow_heap _ _ _ #[.int .u32 (n0 : Int), .int .u32 (n1 : Int), .int .i64 (n2 : Int), .int .i64 (n3 : Int), .int .i64 (n4 : Int), .int .i64 (n4 : Int), .int .i64 (n5 : Int), .int .i64 (n6 : Int), .slice A1 nf c1, .slice A2 l2.length c2, .slice A3 l3.length c3, .int .i64 (n7 : Int), .int .i64 (n8 : Int)] _ _ HZ7.out) ?r5 ?_
              case r1 => rfl
              case r2 => rfl
              case r3 => rfl
              case r4 => rfl
              case r5 => rfl
              exact .inr ⟨HRDF.out, imOf bs x1 x2 x3, A1, A2, A3, c1, c2, c3, by rw [HIM.out], below_setRow_ HB7.out (by omega)⟩
          · have HRDF : Hid (rd bs = none) := by unfold RowKit.Hid; rw [hrd, if_neg (fun h => he2 h.1)]
            have be : (e2 == 0) = false := by simpa using he2
            clear hrd he2
            go_wp2_with (first | refine wpList_load_row rfl 28 (.tmp 8) rfl gm rfl _ _ _ _ HR7.out Try.underlying28 rfl infoImS ?_ | refine wpList_store_row rfl 28 (.tmp 2) (.tmp 118) rfl (w.heap.size + 1) _ rfl rfl _ _ HZ7.out infoImS rfl HONE.out ?_)
            refine ret_im (v := .bool false) 2 3 ?r1 ?r2 ?r3 ?r4 (setRow_heap _ _ _ #[.int .u32 (n0 : Int), .int .u32 (n1 : Int), .int .i64 (n2 : Int), .int .i64 (n3 : Int), .int .i64 (n4 : Int), .int .i64 (n4 : Int), .int .i64 (n5 : Int), .int .i64 (n6 : Int), .slice A1 nf c1, .slice A2 l2.length c2, .slice A3 l3.length c3, .int .i64 (n7 : Int), .int .i64 (n8 : Int)] _ _ HZ7.out) ?r5 ?_
            case r1 => rfl
            case r2 => rfl
            case r3 => rfl
            case r4 => rfl
            case r5 => rfl
            exact .inr ⟨HRDF.out, imOf bs x1 x2 x3, A1, A2, A3, c1, c2, c3, by rw [HIM.out], below_setRow_ HB7.out (by omega)⟩
    · refine (iget_any HS0.out 4 (by omega) (by omega)).mono ?_
      rintro e wg0 ⟨n0, q1, b1, hq, hb, hlt0, rfl, hs⟩
      have HN0 := Lib.hid (And.intro hq hb)
      clear hq hb
      have HG0 := Lib.hid hs
      have cj : wg0.cell? ⟨gm, 0, none⟩ = some (.int .u32 0) := cell_of_row _ _ 0 _ _ (0, 0) hs.im
      have fj : wg0.frozen? ⟨gm, 0, none⟩ = false := frozen_of_row _ _ _ _ _ hs.im
      clear hs HS0
      go_wp2_with fail
      clear cj fj
      obtain ⟨W1, hW1⟩ : ∃ W, W = wg0.setCell ⟨gm, 0, none⟩ (.int .u32 (n0 : Int)) := ⟨_, rfl⟩
      rw [← hW1]
      have HS1 : Hid (IS w W1 ga gk gm A c bs q1 b1 #[.int .u32 (n0 : Int), .int .u32 0, .int .i64 0, .int .i64 0, .int .i64 0, .int .i64 0, .int .i64 0, .int .i64 0, .slice none 0 0, .slice none 0 0, .slice none 0 0, .int .i64 0, .int .i64 0]) := by unfold RowKit.Hid; rw [hW1]; have := HG0.out.set 0 (.int .u32 (n0 : Int)); simpa using this
      clear hW1 HG0
      refine (iget_any HS1.out 4 (by omega) (by omega)).mono ?_
      rintro e wg1 ⟨n1, q2, b2, hq, hb, hlt1, rfl, hs⟩
      have HN1 := Lib.hid (And.intro hq hb)
      clear hq hb
      have HG1 := Lib.hid hs
      have cj : wg1.cell? ⟨gm, 1, none⟩ = some (.int .u32 0) := cell_of_row _ _ 1 _ _ (0, 0) hs.im
      have fj : wg1.frozen? ⟨gm, 1, none⟩ = false := frozen_of_row _ _ _ _ _ hs.im
      clear hs HS1
      go_wp2_with fail
      clear cj fj
      obtain ⟨W2, hW2⟩ : ∃ W, W = wg1.setCell ⟨gm, 1, none⟩ (.int .u32 (n1 : Int)) := ⟨_, rfl⟩
      rw [← hW2]
      have HS2 : Hid (IS w W2 ga gk gm A c bs q2 b2 #[.int .u32 (n0 : Int), .int .u32 (n1 : Int), .int .i64 0, .int .i64 0, .int .i64 0, .int .i64 0, .int .i64 0, .int .i64 0, .slice none 0 0, .slice none 0 0, .slice none 0 0, .int .i64 0, .int .i64 0]) := by unfold RowKit.Hid; rw [hW2]; have := HG1.out.set 1 (.int .u32 (n1 : Int)); simpa using this
      clear hW2 HG1
      refine (iget_any HS2.out 1 (by omega) (by omega)).mono ?_
      rintro e wg2 ⟨n2, q3, b3, hq, hb, hlt2, rfl, hs⟩
      have HN2 := Lib.hid (And.intro hq hb)
      clear hq hb
      have HG2 := Lib.hid hs
      have cj : wg2.cell? ⟨gm, 2, none⟩ = some (.int .i64 0) := cell_of_row _ _ 2 _ _ (0, 0) hs.im
      have fj : wg2.frozen? ⟨gm, 2, none⟩ = false := frozen_of_row _ _ _ _ _ hs.im
      clear hs HS2
      go_wp2_with fail
      clear cj fj
      obtain ⟨W3, hW3⟩ : ∃ W, W = wg2.setCell ⟨gm, 2, none⟩ (.int .i64 (n2 : Int)) := ⟨_, rfl⟩
      rw [← hW3]
      have HS3 : Hid (IS w W3 ga gk gm A c bs q3 b3 #[.int .u32 (n0 : Int), .int .u32 (n1 : Int), .int .i64 (n2 : Int), .int .i64 0, .int .i64 0, .int .i64 0, .int .i64 0, .int .i64 0, .slice none 0 0, .slice none 0 0, .slice none 0 0, .int .i64 0, .int .i64 0]) := by unfold RowKit.Hid; rw [hW3]; have := HG2.out.set 2 (.int .i64 (n2 : Int)); simpa using this
      clear hW3 HG2
      refine (iget_any HS3.out 1 (by omega) (by omega)).mono ?_
      rintro e wg3 ⟨n3, q4, b4, hq, hb, hlt3, rfl, hs⟩
      have HN3 := Lib.hid (And.intro hq hb)
      clear hq hb
      have HG3 := Lib.hid hs
      have cj : wg3.cell? ⟨gm, 3, none⟩ = some (.int .i64 0) := cell_of_row _ _ 3 _ _ (0, 0) hs.im
      have fj : wg3.frozen? ⟨gm, 3, none⟩ = false := frozen_of_row _ _ _ _ _ hs.im
      clear hs HS3
      go_wp2_with fail
      clear cj fj
      obtain ⟨W4, hW4⟩ : ∃ W, W = wg3.setCell ⟨gm, 3, none⟩ (.int .i64 (n3 : Int)) := ⟨_, rfl⟩
      rw [← hW4]
      have HS4 : Hid (IS w W4 ga gk gm A c bs q4 b4 #[.int .u32 (n0 : Int), .int .u32 (n1 : Int), .int .i64 (n2 : Int), .int .i64 (n3 : Int), .int .i64 0, .int .i64 0, .int .i64 0, .int .i64 0, .slice none 0 0, .slice none 0 0, .slice none 0 0, .int .i64 0, .int .i64 0]) := by unfold RowKit.Hid; rw [hW4]; have := HG3.out.set 3 (.int .i64 (n3 : Int)); simpa using this
      clear hW4 HG3
      refine (iget_any HS4.out 1 (by omega) (by omega)).mono ?_
      rintro e wg4 ⟨n4, q5, b5, hq, hb, hlt4, rfl, hs⟩
      have HN4 := Lib.hid (And.intro hq hb)
      clear hq hb
      have HG4 := Lib.hid hs
      have cj : wg4.cell? ⟨gm, 5, none⟩ = some (.int .i64 0) := cell_of_row _ _ 5 _ _ (0, 0) hs.im
      have fj : wg4.frozen? ⟨gm, 5, none⟩ = false := frozen_of_row _ _ _ _ _ hs.im
      clear hs HS4
      have hgm4 : ((wg4.setCell ⟨gm, 5, none⟩ (.int .i64 (n4 : Int)))).cell? ⟨gm, 4, none⟩ = some (.int .i64 0) := by rw [cell_of_row _ _ 4 _ _ (0, 0) (heap_setCell_same _ gm 5 _ _ _ HG4.out.im)]; rfl
      have hgm5 : ((wg4.setCell ⟨gm, 5, none⟩ (.int .i64 (n4 : Int)))).cell? ⟨gm, 5, none⟩ = some (.int .i64 (n4 : Int)) := by rw [cell_of_row _ _ 5 _ _ (0, 0) (heap_setCell_same _ gm 5 _ _ _ HG4.out.im)]; rfl
      have hgf4 : ((wg4.setCell ⟨gm, 5, none⟩ (.int .i64 (n4 : Int)))).frozen? ⟨gm, 4, none⟩ = false := frozen_of_row _ _ _ _ _ (heap_setCell_same _ gm 5 _ _ _ HG4.out.im)
      go_wp2_with fail
      clear cj fj hgm4 hgm5 hgf4
      obtain ⟨W5, hW5⟩ : ∃ W, W = (wg4.setCell ⟨gm, 5, none⟩ (.int .i64 (n4 : Int))).setCell ⟨gm, 4, none⟩ (.int .i64 (n4 : Int)) := ⟨_, rfl⟩
      rw [← hW5]
      have HS5 : Hid (IS w W5 ga gk gm A c bs q5 b5 #[.int .u32 (n0 : Int), .int .u32 (n1 : Int), .int .i64 (n2 : Int), .int .i64 (n3 : Int), .int .i64 (n4 : Int), .int .i64 (n4 : Int), .int .i64 0, .int .i64 0, .slice none 0 0, .slice none 0 0, .slice none 0 0, .int .i64 0, .int .i64 0]) := by unfold RowKit.Hid; rw [hW5]; have := (HG4.out.set 5 (.int .i64 (n4 : Int))).set 4 (.int .i64 (n4 : Int)); simpa using this
      clear hW5 HG4
      refine (iget_any HS5.out 1 (by omega) (by omega)).mono ?_
      rintro e wg5 ⟨n5, q6, b6, hq, hb, hlt5, rfl, hs⟩
      have HN5 := Lib.hid (And.intro hq hb)
      clear hq hb
      have HG5 := Lib.hid hs
      have cj : wg5.cell? ⟨gm, 6, none⟩ = some (.int .i64 0) := cell_of_row _ _ 6 _ _ (0, 0) hs.im
      have fj : wg5.frozen? ⟨gm, 6, none⟩ = false := frozen_of_row _ _ _ _ _ hs.im
      clear hs HS5
      go_wp2_with fail
      clear cj fj
      obtain ⟨W6, hW6⟩ : ∃ W, W = wg5.setCell ⟨gm, 6, none⟩ (.int .i64 (n5 : Int)) := ⟨_, rfl⟩
      rw [← hW6]
      have HS6 : Hid (IS w W6 ga gk gm A c bs q6 b6 #[.int .u32 (n0 : Int), .int .u32 (n1 : Int), .int .i64 (n2 : Int), .int .i64 (n3 : Int), .int .i64 (n4 : Int), .int .i64 (n4 : Int), .int .i64 (n5 : Int), .int .i64 0, .slice none 0 0, .slice none 0 0, .slice none 0 0, .int .i64 0, .int .i64 0]) := by unfold RowKit.Hid; rw [hW6]; have := HG5.out.set 6 (.int .i64 (n5 : Int)); simpa using this
      clear hW6 HG5
      refine (iget_any HS6.out 1 (by omega) (by omega)).mono ?_
      rintro e wg6 ⟨n6, q7, b7, hq, hb, hlt6, rfl, hs⟩
      have HN6 := Lib.hid (And.intro hq hb)
      clear hq hb
      have HG6 := Lib.hid hs
      have cj : wg6.cell? ⟨gm, 7, none⟩ = some (.int .i64 0) := cell_of_row _ _ 7 _ _ (0, 0) hs.im
      have fj : wg6.frozen? ⟨gm, 7, none⟩ = false := frozen_of_row _ _ _ _ _ hs.im
      clear hs HS6
      go_wp2_with fail
      clear cj fj
      obtain ⟨W7, hW7⟩ : ∃ W, W = wg6.setCell ⟨gm, 7, none⟩ (.int .i64 (n6 : Int)) := ⟨_, rfl⟩
      rw [← hW7]
      have HS7 : Hid (IS w W7 ga gk gm A c bs q7 b7 #[.int .u32 (n0 : Int), .int .u32 (n1 : Int), .int .i64 (n2 : Int), .int .i64 (n3 : Int), .int .i64 (n4 : Int), .int .i64 (n4 : Int), .int .i64 (n5 : Int), .int .i64 (n6 : Int), .slice none 0 0, .slice none 0 0, .slice none 0 0, .int .i64 0, .int .i64 0]) := by unfold RowKit.Hid; rw [hW7]; have := HG6.out.set 7 (.int .i64 (n6 : Int)); simpa using this
      clear hW7 HG6
      refine (iget_any HS7.out 2 (by omega) (by omega)).mono ?_
      rintro e wg7 ⟨n7, q8, b8, hq, hb, hlt7, rfl, hs⟩
      have HN7 := Lib.hid (And.intro hq hb)
      clear hq hb
      have HG7 := Lib.hid hs
      have cj : wg7.cell? ⟨gm, 11, none⟩ = some (.int .i64 0) := cell_of_row _ _ 11 _ _ (0, 0) hs.im
      have fj : wg7.frozen? ⟨gm, 11, none⟩ = false := frozen_of_row _ _ _ _ _ hs.im
      clear hs HS7
      go_wp2_with fail
      clear cj fj
      obtain ⟨W8, hW8⟩ : ∃ W, W = wg7.setCell ⟨gm, 11, none⟩ (.int .i64 (n7 : Int)) := ⟨_, rfl⟩
      rw [← hW8]
      have HS8 : Hid (IS w W8 ga gk gm A c bs q8 b8 #[.int .u32 (n0 : Int), .int .u32 (n1 : Int), .int .i64 (n2 : Int), .int .i64 (n3 : Int), .int .i64 (n4 : Int), .int .i64 (n4 : Int), .int .i64 (n5 : Int), .int .i64 (n6 : Int), .slice none 0 0, .slice none 0 0, .slice none 0 0, .int .i64 (n7 : Int), .int .i64 0]) := by unfold RowKit.Hid; rw [hW8]; have := HG7.out.set 11 (.int .i64 (n7 : Int)); simpa using this
      clear hW8 HG7
      refine (iget_any HS8.out 2 (by omega) (by omega)).mono ?_
      rintro e wg8 ⟨n8, q9, b9, hq, hb, hlt8, rfl, hs⟩
      have HN8 := Lib.hid (And.intro hq hb)
      clear hq hb
      have HG8 := Lib.hid hs
      have cj : wg8.cell? ⟨gm, 12, none⟩ = some (.int .i64 0) := cell_of_row _ _ 12 _ _ (0, 0) hs.im
      have fj : wg8.frozen? ⟨gm, 12, none⟩ = false := frozen_of_row _ _ _ _ _ hs.im
      clear hs HS8
      go_wp2_with fail
      clear cj fj
      obtain ⟨W9, hW9⟩ : ∃ W, W = wg8.setCell ⟨gm, 12, none⟩ (.int .i64 (n8 : Int)) := ⟨_, rfl⟩
      rw [← hW9]
      have HS9 : Hid (IS w W9 ga gk gm A c bs q9 b9 #[.int .u32 (n0 : Int), .int .u32 (n1 : Int), .int .i64 (n2 : Int), .int .i64 (n3 : Int), .int .i64 (n4 : Int), .int .i64 (n4 : Int), .int .i64 (n5 : Int), .int .i64 (n6 : Int), .slice none 0 0, .slice none 0 0, .slice none 0 0, .int .i64 (n7 : Int), .int .i64 (n8 : Int)]) := by unfold RowKit.Hid; rw [hW9]; have := HG8.out.set 12 (.int .i64 (n8 : Int)); simpa using this
      clear hW9 HG8
      refine (irun HS9.out).mono ?_
      rintro e wr1 ⟨B1, d1, rfl, hx1, ho1, hs, hk⟩
      have HX1 := Lib.hid hx1
      have HO1 := Lib.hid ho1
      have HS10 := Lib.hid hs
      have hz9 := HS9.out.bel.size
      have HL9 : Hid (ga < W9.heap.size ∧ gk < W9.heap.size ∧ gm < W9.heap.size) := ⟨(Array.getElem?_eq_some_iff.1 HS9.out.rd.ra).1, (Array.getElem?_eq_some_iff.1 HS9.out.rd.rk).1, (Array.getElem?_eq_some_iff.1 HS9.out.im).1⟩
      clear hx1 ho1 hs hk HS9
      generalize hrv1 : rnv bs q9 = x1 at *
      have HV1 := Lib.hid hrv1
      clear hrv1
      go_wp2_with fail
      refine (irun HS10.out).mono ?_
      rintro e wr2 ⟨B2, d2, rfl, hx2, ho2, hs, hk⟩
      have HX1b := Lib.hid (src_k2 HX1.out hk (fun b o s e => by have := HO1.out b o s e; have := HL9.out; omega))
      have HX2 := Lib.hid hx2
      have HO2 := Lib.hid ho2
      have HS11 := Lib.hid hs
      have hz10 := HS10.out.bel.size
      have HL10 : Hid (ga < wr1.heap.size ∧ gk < wr1.heap.size ∧ gm < wr1.heap.size) := ⟨(Array.getElem?_eq_some_iff.1 HS10.out.rd.ra).1, (Array.getElem?_eq_some_iff.1 HS10.out.rd.rk).1, (Array.getElem?_eq_some_iff.1 HS10.out.im).1⟩
      clear hx2 ho2 hs hk HS10 HX1
      generalize hrv2 : rnv bs (rnq bs q9) = x2 at *
      have HV2 := Lib.hid hrv2
      clear hrv2
      go_wp2_with fail
      refine (irun HS11.out).mono ?_
      rintro e wr3 ⟨B3, d3, rfl, hx3, ho3, hs, hk⟩
      have HX1c := Lib.hid (src_k2 HX1b.out hk (fun b o s e => by have := HO1.out b o s e; have := HL9.out; omega))
      have HX2c := Lib.hid (src_k2 HX2.out hk (fun b o s e => by have := HO2.out b o s e; have := HL10.out; omega))
      have HO3 := Lib.hid ho3
      have HL11x : Hid (gm < wr2.heap.size) := (Array.getElem?_eq_some_iff.1 HS11.out.im).1
      have HX3 := Lib.hid hx3
      have HS12 := Lib.hid hs
      clear hx3 ho3 hs hk HS11 HX1b HX2
      generalize hrv3 : rnv bs (rnq bs (rnq bs q9)) = x3 at *
      have HV3 := Lib.hid hrv3
      clear hrv3
      have hb12 : rnb bs (rnq bs (rnq bs q9)) (rnb bs (rnq bs q9) (rnb bs q9 b9)) = false := by
        have e : b9 = stB bs [4, 4, 1, 1, 1, 1, 1, 2, 2] 4 true := by
          have h0 := HN0.out; have h1 := HN1.out; have h2 := HN2.out; have h3 := HN3.out; have h4 := HN4.out; have h5 := HN5.out; have h6 := HN6.out; have h7 := HN7.out; have h8 := HN8.out
          simp only [stB]
          rw [h8.2, h7.2, h7.1, h6.2, h6.1, h5.2, h5.1, h4.2, h4.1, h3.2, h3.1, h2.2, h2.1, h1.2, h1.1, h0.2, h0.1]
        have e2 : b9 = false := by
          cases hb : b9 with
          | false => rfl
          | true =>
            rw [hb] at e
            have := (stB_true _ _ _ e.symm).2
            rcases this with h | h
            · cases h
            · simp at h; omega
        rw [e2]
        simp [rnb]
      have hs12 := HS12.out
      rw [hb12] at hs12
      have ck : wr3.cell? ⟨gk, 0, none⟩ = some (.bool false) := cell_of_row _ _ 0 _ _ (0, 0) hs12.rd.rk
      have HZ12 := Lib.hid hs12.rs
      have HB12 := Lib.hid hs12.bel
      clear hs12 hb12 HS12
      go_wp2_with (refine wpList_store_row rfl 28 (.tmp 2) (.tmp 88) rfl (w.heap.size + 1) _ rfl rfl _ _ HZ12.out infoImS rfl zrow_one ?_)
      refine ret_im (v := .bool false) 2 3 ?r1 ?r2 ?r3 ?r4 (setRow_heap _ _ _ #[.int .u32 0, .int .u32 0, .int .i64 0, .int .i64 0, .int .i64 0, .int .i64 0, .int .i64 0, .int .i64 0, .slice none 0 0, .slice none 0 0, .slice none 0 0, .int .i64 0, .int .i64 0] _ _ HZ12.out) ?r5 ?_
      case r1 => rfl
      case r2 => rfl
      case r3 => rfl
      case r4 => rfl
      case r5 => rfl
      exact .inr ⟨rd_short (by omega), Im.zero, none, none, none, 0, 0, 0, rfl, below_setRow_ HB12.out (by omega)⟩
  · go_enter Try.func33, Try.ntmps33
    go_wp2_with fail
    obtain ⟨W0, hW0⟩ : ∃ W0, W0 = (w.alloc (.cells #[.slice A bs.length c] 31)).alloc (.cells #[.int .u32 0, .int .u32 0, .int .i64 0, .int .i64 0, .int .i64 0, .int .i64 0, .int .i64 0, .int .i64 0, .slice none 0 0, .slice none 0 0, .slice none 0 0, .int .i64 0, .int .i64 0] 28) := ⟨_, rfl⟩
    rw [← hW0]
    have HG0 : Hid (W0.heap[w.heap.size]? = some (.cells #[.slice A bs.length c] 31 (0, 0))) := by unfold RowKit.Hid; rw [hW0]; exact heap_alloc2_old _ _ _
    have HZ0 : Hid (W0.heap[w.heap.size + 1]? = some (.cells #[.int .u32 0, .int .u32 0, .int .i64 0, .int .i64 0, .int .i64 0, .int .i64 0, .int .i64 0, .int .i64 0, .slice none 0 0, .slice none 0 0, .slice none 0 0, .int .i64 0, .int .i64 0] 28 (0, 0))) := by unfold RowKit.Hid; rw [hW0]; exact heap_alloc2_new _ _ _
    have HB0 : Hid (Below w.heap.size w W0) := by unfold RowKit.Hid; rw [hW0]; exact HBF.out _ _
    clear hW0
    refine wp_region_any (by kernel_rfl) ?_
    refine wpAny_by (ops' := imrsOps) (by kernel_rfl) ?_
    refine imrsRegion _ W0 ?hs bs A none c 0 w.heap.size bs.length false rfl HG0.out h4 rfl rfl ?_
    case hs => simp
    rintro vs w4 hb4 ⟨_, _, _, hre, hrp, hnv⟩
    have hre := hre rfl
    have hrp := hrp rfl
    have hnv := hnv rfl rfl
    rw [if_pos rfl] at hre hrp
    obtain ⟨ga, va, hga, hra⟩ := hre
    obtain ⟨gk, vk, hgk, hrk⟩ := hrp
    simp only [imrsSlots, List.foldl_cons, List.foldl_nil]
    simp only [imrsVal]
    simp only [Act.put, List.setIfInBounds_toArray, List.set_cons_zero, List.set_cons_succ]
    rw [va, vk]
    have ck : w4.cell? ⟨gk, 0, none⟩ = some (.bool false) := cell_of_row _ _ 0 _ _ (0, 0) hrk
    have HZ4 := Lib.hid ((hb4.block _ (Array.getElem?_eq_some_iff.1 HZ0.out).1).trans HZ0.out)
    have HB4 := Lib.hid (HB0.out.trans (hb4.mono HB0.out.size))
    clear va vk hnv hga hgk hra hrk hb4 HG0 HZ0 HB0 hre hrp
    go_wp2_with (refine wpList_store_row rfl 28 (.tmp 2) (.tmp 27) rfl (w.heap.size + 1) _ rfl rfl _ _ HZ4.out infoImS rfl zrow_one ?_)
    refine ret_im (v := .bool false) 2 3 ?r1 ?r2 ?r3 ?r4 (setRow_heap _ _ _ #[.int .u32 0, .int .u32 0, .int .i64 0, .int .i64 0, .int .i64 0, .int .i64 0, .int .i64 0, .int .i64 0, .slice none 0 0, .slice none 0 0, .slice none 0 0, .int .i64 0, .int .i64 0] _ _ HZ4.out) ?r5 ?_
    case r1 => rfl
    case r2 => rfl
    case r3 => rfl
    case r4 => rfl
    case r5 => rfl
    exact .inr ⟨rd_short (by omega), Im.zero, none, none, none, 0, 0, 0, rfl, below_setRow_ HB4.out (by omega)⟩
end Go.Proofs.Ytjhopgmionpkoaa
