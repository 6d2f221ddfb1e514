/-
  The walk of the law ImageSigns: any image is signed under any key, and any bytes are opened under it, as the document says.
-/
import Derived.Test.YtjhopgmionpkoaaImS
import Derived.Test.YtjhopgmionpkoaaImM
import Derived.Test.YtjhopgmionpkoaaImN
import Derived.Test.YtjhopgmionpkoaaOpenM
namespace Go.Proofs.Ytjhopgmionpkoaa
set_option maxRecDepth 20000
open Go.RowKit Mem

theorem imParse_len2 (bs : Ia.Bs) : ImLen (imParse bs).1 := by
  have hz : ImLen Im.zero := ⟨Nat.zero_le _, Nat.zero_le _, Nat.zero_le _⟩
  unfold imParse
  by_cases h : 2016 < bs.length
  · rw [if_pos h]; exact hz
  · rw [if_neg h]
    cases hr : rd bs with
    | none => exact hz
    | some m =>
      dsimp only
      by_cases hc : chk m ≠ 0
      · rw [if_pos hc]; exact hz
      · rw [if_neg hc]
        have hf := (rd_only hr).2.1
        exact ⟨by have := hf.fl; dsimp only; omega, by have := hf.se.2; dsimp only; omega, by have := hf.me.2; dsimp only; omega⟩
theorem imOpen_len (k b : Ia.Bs) : ImLen (imOpen k b).1 := by
  have hz : ImLen Im.zero := ⟨Nat.zero_le _, Nat.zero_le _, Nat.zero_le _⟩
  unfold imOpen
  by_cases h1 : 2048 < b.length
  · rw [if_pos h1]; exact hz
  · rw [if_neg h1]
    by_cases h2 : b.length < 32
    · rw [if_pos h2]; exact hz
    · rw [if_neg h2]
      by_cases h3 : (b.drop (b.length - 32) == tagOf k (b.take (b.length - 32))) = true
      · rw [if_pos h3]; exact imParse_len2 _
      · rw [if_neg h3]; exact hz
abbrev KArg (w : World) (A : Option Addr) (c : Nat) (bs : List UInt8) : Prop := BSrc w A c bs ∧ bs.length ≤ c ∧ c ≤ 140737488351232
set_option maxRecDepth 100000 in
set_option maxHeartbeats 8000000 in
theorem imageSigns_walk (w : World) (m : Im) (A1 A2 A3 : Option Addr) (c1 c2 c3 : Nat) (hm : ImAt w m A1 A2 A3 c1 c2 c3 ∧ ImOk m) (A : Option Addr) (c : Nat) (k : List UInt8) (hk : KArg w A c k) (A' : Option Addr) (c' : Nat) (b : List UInt8) (hb : KArg w A' c' b) :
    Calls Try.prog 7 #[imAgg m A1 A2 A3 c1 c2 c3, .slice A k.length c, .slice A' b.length c'] w fun e w' => e = .returned (.bool true) ∧ Below w.heap.size w w' := by
  obtain ⟨hA, hok⟩ := hm
  obtain ⟨hK, hkc, hkm⟩ := hk
  obtain ⟨hB, hbc, hbm⟩ := hb
  have HA := Lib.hid hA
  have HK := Lib.hid hK
  have HB := Lib.hid hB
  have HLT := Lib.hid (fun W => imlight m A1 A2 A3 c1 c2 c3 W)
  clear hA hK hB
  unfold imAgg at *
  go_enter Try.func7, Try.ntmps7
  go_upto_region 1 with fail
  obtain ⟨W0, hW0⟩ : ∃ W, W = w.alloc (.cells #[.int .u32 m.ver, .int .u32 m.frm, .int .i64 m.el, .int .i64 m.fr.sl, .int .i64 m.fr.ol, .int .i64 m.fr.nw, .int .i64 m.fr.is, .int .i64 m.fr.os, .slice A1 m.first.length c1, .slice A2 m.step.length c2, .slice A3 m.move.length c3, .int .i64 m.sf, .int .i64 m.mf] 28) := ⟨_, rfl⟩
  rw [← hW0]
  have HR0 : Hid (W0.heap[w.heap.size]? = some (.cells #[.int .u32 m.ver, .int .u32 m.frm, .int .i64 m.el, .int .i64 m.fr.sl, .int .i64 m.fr.ol, .int .i64 m.fr.nw, .int .i64 m.fr.is, .int .i64 m.fr.os, .slice A1 m.first.length c1, .slice A2 m.step.length c2, .slice A3 m.move.length c3, .int .i64 m.sf, .int .i64 m.mf] 28 (0, 0))) := by unfold RowKit.Hid; rw [hW0]; exact heap_alloc_new _ _
  have HB0 : Hid (Below w.heap.size w W0) := by unfold RowKit.Hid; rw [hW0]; exact (Below.refl _ _).alloc (Nat.le_refl _) _
  have hz0 : w.heap.size < W0.heap.size := by rw [hW0]; simp
  clear hW0
  by_cases hbig : 16384 < k.length
  · go_wp2_with fail
    refine (imknown _).mono ?_
    rintro e w1 ⟨rfl, hb1⟩
    go_wp2_with fail
    go_ret
    exact ⟨rfl, HB0.out.trans (hb1.mono HB0.out.size)⟩
  · go_wp2_with (refine wpList_load_row rfl 28 (.tmp 3) rfl w.heap.size rfl _ _ _ _ HR0.out Try.underlying28 rfl infoImS ?_)
    refine (HLT.out _).mono ?_
    rintro e w1 ⟨rfl, hb1⟩
    have HR1 := Lib.hid ((hb1.block _ hz0).trans HR0.out)
    have HB1 := Lib.hid (HB0.out.trans (hb1.mono HB0.out.size))
    have hz1 := hb1.size
    clear hb1 HR0 HB0 HLT
    by_cases hlt : m.step.length ≤ 2000 ∧ m.move.length ≤ 2000 ∧ m.first.length ≤ 200
    · rw [decide_eq_true hlt]
      by_cases hbb : 10000 < b.length
      · go_wp2_with fail
        refine (imknown _).mono ?_
        rintro e w2 ⟨rfl, hb2⟩
        go_wp2_with fail
        go_ret
        exact ⟨rfl, HB1.out.trans (hb2.mono HB1.out.size)⟩
      · have hlen : ImLen m := ⟨by omega, by omega, by omega⟩
        have hS1 := fun W h h' => imsign m A1 A2 A3 c1 c2 c3 k A c W h hlen hok h' hkc (by omega) hkm
        have hS2 := fun W h h' => refimsign m A1 A2 A3 c1 c2 c3 k A c W h hlen hok h' hkc (by omega) hkm
        have hO1 := fun W h h' => imopen b k A' c' A c W h hbc h' hkc (by omega) hkm
        have hO2 := fun W h h' => refimopen b k A' c' A c W h hbc h' hkc (by omega) hkm
        have HLEN := Lib.hid (imOpen_len k b)
        generalize imSign k m = s at *
        generalize imOpen k b = o at *
        obtain ⟨sx, se⟩ := s
        obtain ⟨n, oe⟩ := o
        have hSA := fun (B1 B2 B3 D1 D2 D3 : Option Addr) (d1 d2 d3 k1 k2 k3 : Nat) (W : World) (h : ImAt W n B1 B2 B3 d1 d2 d3) (h' : ImAt W n D1 D2 D3 k1 k2 k3) => refimsame n B1 B2 B3 D1 D2 D3 d1 d2 d3 k1 k2 k3 W h h' HLEN.out
        unfold imAgg at hS1 hS2 hSA
        dsimp only at *
        have HS1 := Lib.hid hS1
        have HS2 := Lib.hid hS2
        have HO1 := Lib.hid hO1
        have HO2 := Lib.hid hO2
        have HSA := Lib.hid hSA
        clear hS1 hS2 hO1 hO2 hSA hlt hlen hok
        go_wp2_with (refine wpList_load_row rfl 28 (.tmp 3) rfl w.heap.size rfl _ _ _ _ HR1.out Try.underlying28 rfl infoImS ?_)
        refine (HS1.out _ (HA.out.below HB1.out (Nat.le_refl _)) (HK.out.below HB1.out (Nat.le_refl _))).mono ?_
        rintro e w2 ⟨Ax, cx, rfl, hx, _, hb2⟩
        have HX2 := Lib.hid hx.at_
        have HR2 := Lib.hid ((hb2.block _ (by omega)).trans HR1.out)
        have HB2 := Lib.hid (HB1.out.trans (hb2.mono HB1.out.size))
        have hz2 := hb2.size
        clear hb2 hx HR1 HB1 HS1
        go_wp2_with (refine wpList_load_row rfl 28 (.tmp 3) rfl w.heap.size rfl _ _ _ _ HR2.out Try.underlying28 rfl infoImS ?_)
        refine (HS2.out _ (HA.out.below HB2.out (Nat.le_refl _)) (HK.out.below HB2.out (Nat.le_refl _))).mono ?_
        rintro e w3 ⟨Ay, cy, rfl, hy, _, hb3⟩
        have HY3 := Lib.hid hy.at_
        have HX3 := Lib.hid (HX2.out.below hb3 (Nat.le_refl _))
        have HB3 := Lib.hid (HB2.out.trans (hb3.mono HB2.out.size))
        have hz3 := hb3.size
        clear hb3 hy HX2 HR2 HB2 HS2
        go_wp2_with fail
        refine (HO1.out _ (HB.out.below HB3.out (Nat.le_refl _)) (HK.out.below HB3.out (Nat.le_refl _))).mono ?_
        rintro e w4 ⟨B1, B2, B3, d1, d2, d3, rfl, hnew, hb4⟩
        have HN4 := Lib.hid hnew
        have HX4 := Lib.hid (HX3.out.below hb4 (Nat.le_refl _))
        have HY4 := Lib.hid (HY3.out.below hb4 (Nat.le_refl _))
        have HB4 := Lib.hid (HB3.out.trans (hb4.mono HB3.out.size))
        have hz4 := hb4.size
        clear hb4 hnew HX3 HY3 HB3 HO1
        unfold imAgg
        go_wp2_with fail
        obtain ⟨W4, hW4⟩ : ∃ W, W = w4.alloc (.cells #[.int .u32 n.ver, .int .u32 n.frm, .int .i64 n.el, .int .i64 n.fr.sl, .int .i64 n.fr.ol, .int .i64 n.fr.nw, .int .i64 n.fr.is, .int .i64 n.fr.os, .slice B1 n.first.length d1, .slice B2 n.step.length d2, .slice B3 n.move.length d3, .int .i64 n.sf, .int .i64 n.mf] 28) := ⟨_, rfl⟩
        rw [← hW4]
        have HC4 : Hid (W4.heap[w4.heap.size]? = some (.cells #[.int .u32 n.ver, .int .u32 n.frm, .int .i64 n.el, .int .i64 n.fr.sl, .int .i64 n.fr.ol, .int .i64 n.fr.nw, .int .i64 n.fr.is, .int .i64 n.fr.os, .slice B1 n.first.length d1, .slice B2 n.step.length d2, .slice B3 n.move.length d3, .int .i64 n.sf, .int .i64 n.mf] 28 (0, 0))) := by unfold RowKit.Hid; rw [hW4]; exact heap_alloc_new _ _
        have hx4 : Below w4.heap.size w4 W4 := by rw [hW4]; exact (Below.refl _ _).alloc (Nat.le_refl _) _
        have hzW4 : w4.heap.size < W4.heap.size := by rw [hW4]; simp
        have HN5 := Lib.hid (HN4.out.below hx4)
        have HX5 := Lib.hid (HX4.out.below hx4 (Nat.le_refl _))
        have HY5 := Lib.hid (HY4.out.below hx4 (Nat.le_refl _))
        have HB5 := Lib.hid (HB4.out.trans (hx4.mono HB4.out.size))
        clear hW4 hx4 HN4 HX4 HY4 HB4
        refine (HO2.out _ (HB.out.below HB5.out (Nat.le_refl _)) (HK.out.below HB5.out (Nat.le_refl _))).mono ?_
        rintro e w6 ⟨D1, D2, D3, k1, k2, k3, rfl, hnew, hb6⟩
        have HM6 := Lib.hid hnew
        have HN6 := Lib.hid (HN5.out.below hb6)
        have HC6 := Lib.hid ((hb6.block _ hzW4).trans HC4.out)
        have HX6 := Lib.hid (HX5.out.below hb6 (Nat.le_refl _))
        have HY6 := Lib.hid (HY5.out.below hb6 (Nat.le_refl _))
        have HB6 := Lib.hid (HB5.out.trans (hb6.mono HB5.out.size))
        have hz6 := hb6.size
        clear hb6 hnew HN5 HC4 HX5 HY5 HB5 HO2
        unfold imAgg
        go_upto_region 9 with fail
        obtain ⟨W7, hW7⟩ : ∃ W, W = w6.alloc (.cells #[.int .u32 n.ver, .int .u32 n.frm, .int .i64 n.el, .int .i64 n.fr.sl, .int .i64 n.fr.ol, .int .i64 n.fr.nw, .int .i64 n.fr.is, .int .i64 n.fr.os, .slice D1 n.first.length k1, .slice D2 n.step.length k2, .slice D3 n.move.length k3, .int .i64 n.sf, .int .i64 n.mf] 28) := ⟨_, rfl⟩
        rw [← hW7]
        have HD7 : Hid (W7.heap[w6.heap.size]? = some (.cells #[.int .u32 n.ver, .int .u32 n.frm, .int .i64 n.el, .int .i64 n.fr.sl, .int .i64 n.fr.ol, .int .i64 n.fr.nw, .int .i64 n.fr.is, .int .i64 n.fr.os, .slice D1 n.first.length k1, .slice D2 n.step.length k2, .slice D3 n.move.length k3, .int .i64 n.sf, .int .i64 n.mf] 28 (0, 0))) := by unfold RowKit.Hid; rw [hW7]; exact heap_alloc_new _ _
        have hx7 : Below w6.heap.size w6 W7 := by rw [hW7]; exact (Below.refl _ _).alloc (Nat.le_refl _) _
        have HC7 := Lib.hid ((hx7.block _ (by omega)).trans HC6.out)
        have HN7 := Lib.hid (HN6.out.below hx7)
        have HM7 := Lib.hid (HM6.out.below hx7)
        have HB7 := Lib.hid (HB6.out.trans (hx7.mono HB6.out.size))
        have cb1 := conv_bytes W7 Ax cx sx (HX6.out.below hx7 (Nat.le_refl _))
        have cb2 := conv_bytes W7 Ay cy sx (HY6.out.below hx7 (Nat.le_refl _))
        clear hW7 hx7 HC6 HN6 HM6 HB6 HX6 HY6
        have ca0 : W7.cell? ⟨w4.heap.size, 0, none⟩ = some (.int .u32 n.ver) := cell_of_row _ _ 0 _ _ (0, 0) HC7.out
        have ca1 : W7.cell? ⟨w4.heap.size, 1, none⟩ = some (.int .u32 n.frm) := cell_of_row _ _ 1 _ _ (0, 0) HC7.out
        have ca2 : W7.cell? ⟨w4.heap.size, 2, none⟩ = some (.int .i64 n.el) := cell_of_row _ _ 2 _ _ (0, 0) HC7.out
        have ca3 : W7.cell? ⟨w4.heap.size, 3, none⟩ = some (.int .i64 n.fr.sl) := cell_of_row _ _ 3 _ _ (0, 0) HC7.out
        have ca4 : W7.cell? ⟨w4.heap.size, 4, none⟩ = some (.int .i64 n.fr.ol) := cell_of_row _ _ 4 _ _ (0, 0) HC7.out
        have ca5 : W7.cell? ⟨w4.heap.size, 5, none⟩ = some (.int .i64 n.fr.nw) := cell_of_row _ _ 5 _ _ (0, 0) HC7.out
        have ca6 : W7.cell? ⟨w4.heap.size, 6, none⟩ = some (.int .i64 n.fr.is) := cell_of_row _ _ 6 _ _ (0, 0) HC7.out
        have ca7 : W7.cell? ⟨w4.heap.size, 7, none⟩ = some (.int .i64 n.fr.os) := cell_of_row _ _ 7 _ _ (0, 0) HC7.out
        have ca8 : W7.cell? ⟨w4.heap.size, 8, none⟩ = some (.slice B1 n.first.length d1) := cell_of_row _ _ 8 _ _ (0, 0) HC7.out
        have ca9 : W7.cell? ⟨w4.heap.size, 9, none⟩ = some (.slice B2 n.step.length d2) := cell_of_row _ _ 9 _ _ (0, 0) HC7.out
        have ca10 : W7.cell? ⟨w4.heap.size, 10, none⟩ = some (.slice B3 n.move.length d3) := cell_of_row _ _ 10 _ _ (0, 0) HC7.out
        have ca11 : W7.cell? ⟨w4.heap.size, 11, none⟩ = some (.int .i64 n.sf) := cell_of_row _ _ 11 _ _ (0, 0) HC7.out
        have ca12 : W7.cell? ⟨w4.heap.size, 12, none⟩ = some (.int .i64 n.mf) := cell_of_row _ _ 12 _ _ (0, 0) HC7.out
        have cb0 : W7.cell? ⟨w6.heap.size, 0, none⟩ = some (.int .u32 n.ver) := cell_of_row _ _ 0 _ _ (0, 0) HD7.out
        have cb1 : W7.cell? ⟨w6.heap.size, 1, none⟩ = some (.int .u32 n.frm) := cell_of_row _ _ 1 _ _ (0, 0) HD7.out
        have cb2 : W7.cell? ⟨w6.heap.size, 2, none⟩ = some (.int .i64 n.el) := cell_of_row _ _ 2 _ _ (0, 0) HD7.out
        have cb3 : W7.cell? ⟨w6.heap.size, 3, none⟩ = some (.int .i64 n.fr.sl) := cell_of_row _ _ 3 _ _ (0, 0) HD7.out
        have cb4 : W7.cell? ⟨w6.heap.size, 4, none⟩ = some (.int .i64 n.fr.ol) := cell_of_row _ _ 4 _ _ (0, 0) HD7.out
        have cb5 : W7.cell? ⟨w6.heap.size, 5, none⟩ = some (.int .i64 n.fr.nw) := cell_of_row _ _ 5 _ _ (0, 0) HD7.out
        have cb6 : W7.cell? ⟨w6.heap.size, 6, none⟩ = some (.int .i64 n.fr.is) := cell_of_row _ _ 6 _ _ (0, 0) HD7.out
        have cb7 : W7.cell? ⟨w6.heap.size, 7, none⟩ = some (.int .i64 n.fr.os) := cell_of_row _ _ 7 _ _ (0, 0) HD7.out
        have cb8 : W7.cell? ⟨w6.heap.size, 8, none⟩ = some (.slice D1 n.first.length k1) := cell_of_row _ _ 8 _ _ (0, 0) HD7.out
        have cb9 : W7.cell? ⟨w6.heap.size, 9, none⟩ = some (.slice D2 n.step.length k2) := cell_of_row _ _ 9 _ _ (0, 0) HD7.out
        have cb10 : W7.cell? ⟨w6.heap.size, 10, none⟩ = some (.slice D3 n.move.length k3) := cell_of_row _ _ 10 _ _ (0, 0) HD7.out
        have cb11 : W7.cell? ⟨w6.heap.size, 11, none⟩ = some (.int .i64 n.sf) := cell_of_row _ _ 11 _ _ (0, 0) HD7.out
        have cb12 : W7.cell? ⟨w6.heap.size, 12, none⟩ = some (.int .i64 n.mf) := cell_of_row _ _ 12 _ _ (0, 0) HD7.out
        go_wp2_with fail
        clear ca0 cb0 ca1 cb1 ca2 cb2 ca3 cb3 ca4 cb4 ca5 cb5 ca6 cb6 ca7 cb7 ca8 cb8 ca9 cb9 ca10 cb10 ca11 cb11 ca12 cb12
        refine (HSA.out B1 B2 B3 D1 D2 D3 d1 d2 d3 k1 k2 k3 _ HN7.out.at_ HM7.out.at_).mono ?_
        rintro e w8 ⟨rfl, hb8⟩
        have HB8 := Lib.hid (HB7.out.trans (hb8.mono HB7.out.size))
        clear hb8
        go_wp2_with fail
        refine (imknown _).mono ?_
        rintro e w9 ⟨rfl, hb9⟩
        have HB9 := Lib.hid (HB8.out.trans (hb9.mono HB8.out.size))
        clear hb9
        go_wp2_with fail
        go_ret
        exact ⟨rfl, HB9.out⟩
    · rw [decide_eq_false hlt]
      go_wp2_with fail
      refine (imknown _).mono ?_
      rintro e w2 ⟨rfl, hb2⟩
      go_wp2_with fail
      go_ret
      exact ⟨rfl, HB1.out.trans (hb2.mono HB1.out.size)⟩
end Go.Proofs.Ytjhopgmionpkoaa
