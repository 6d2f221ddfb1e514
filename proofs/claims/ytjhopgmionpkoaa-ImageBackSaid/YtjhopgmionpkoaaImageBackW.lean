/-
  The walk of the law ImageBack: an image that was laid down is read as it was, and so is one that was signed.
-/
import Derived.Test.YtjhopgmionpkoaaImQ
import Derived.Test.YtjhopgmionpkoaaImM
import Derived.Test.YtjhopgmionpkoaaImN
import Derived.Test.YtjhopgmionpkoaaOpenM
namespace Go.Proofs.Ytjhopgmionpkoaa
set_option maxRecDepth 20000
open Go.RowKit Mem

theorem imEnc_fine {m : Im} {x : Ia.Bs} (h : imEnc m = (x, 0)) (ho : ImOk m) (k : Ia.Bs) : imParse x = (m, 0) ∧ imOpen k (x ++ tagOf k x) = (m, 0) ∧ x.length ≤ 2016 := by
  have hl := imEnc_len m
  rw [h] at hl
  dsimp only at hl
  unfold imEnc at h
  by_cases hc : chk m ≠ 0
  · rw [if_pos hc] at h; injection h with _ h2; exact absurd h2 hc
  · rw [if_neg hc] at h
    by_cases hb : 2016 < (laidB m).length
    · rw [if_pos hb] at h; injection h with _ h2; cases h2
    · rw [if_neg hb] at h
      injection h with h1 _
      subst h1
      have hc0 : chk m = 0 := by omega
      have hp : imParse (laidB m) = (m, 0) := by
        unfold imParse
        rw [if_neg hb, rd_laid (chk_fits hc0 ho) (chk_good hc0).2.1.1]
        dsimp only
        rw [if_neg hc]
      refine ⟨hp, ?_, hl⟩
      have ht := tagOf_len k (laidB m)
      have hll : (laidB m ++ tagOf k (laidB m)).length = (laidB m).length + 32 := by rw [List.length_append, ht]
      unfold imOpen
      rw [hll, if_neg (by omega), if_neg (by omega), Nat.add_sub_cancel, List.drop_left, List.take_left, if_pos (by simp), hp]
theorem imEnc_bad {m : Im} {x : Ia.Bs} {er : Int} (h : imEnc m = (x, er)) (he : er ≠ 0) : x = [] ∧ ((chk m = 0 ∧ er = 3) ∨ (chk m ≠ 0 ∧ er = chk m)) := by
  unfold imEnc at h
  by_cases hc : chk m ≠ 0
  · rw [if_pos hc] at h; injection h with h1 h2; exact ⟨h1.symm, .inr ⟨hc, h2.symm⟩⟩
  · rw [if_neg hc] at h
    by_cases hb : 2016 < (laidB m).length
    · rw [if_pos hb] at h; injection h with h1 h2; exact ⟨h1.symm, .inl ⟨by omega, h2.symm⟩⟩
    · rw [if_neg hb] at h; injection h with _ h2; exact absurd h2.symm he
set_option maxRecDepth 100000 in
set_option maxHeartbeats 8000000 in
theorem imageBack_walk (w : World) (m : Im) (A1 A2 A3 : Option Addr) (c1 c2 c3 : Nat) (hm : ImAt w m A1 A2 A3 c1 c2 c3 ∧ ImOk m) (A : Option Addr) (c : Nat) (k : List UInt8) (hk : BSrc w A c k ∧ k.length ≤ c ∧ c ≤ 140737488351232) :
    Calls Try.prog 8 #[imAgg m A1 A2 A3 c1 c2 c3, .slice A k.length c] w fun e w' => e = .returned (.bool true) ∧ Below w.heap.size w w' := by
  obtain ⟨hA, hok⟩ := hm
  obtain ⟨hK, hkc, hkm⟩ := hk
  have HA := Lib.hid hA
  have HK := Lib.hid hK
  have HLT := Lib.hid (fun W => imlight m A1 A2 A3 c1 c2 c3 W)
  clear hA hK
  unfold imAgg at *
  go_enter Try.func8, Try.ntmps8
  go_upto_region 1 with fail
  obtain ⟨W0, hW0⟩ : ∃ W, W = w.alloc (.cells #[.int .u32 m.ver, .int .u32 m.frm, .int .i64 m.el, .int .i64 m.fr.sl, .int .i64 m.fr.ol, .int .i64 m.fr.nw, .int .i64 m.fr.is, .int .i64 m.fr.os, .slice A1 m.first.length c1, .slice A2 m.step.length c2, .slice A3 m.move.length c3, .int .i64 m.sf, .int .i64 m.mf] 28) := ⟨_, rfl⟩
  rw [← hW0]
  have HR0 : Hid (W0.heap[w.heap.size]? = some (.cells #[.int .u32 m.ver, .int .u32 m.frm, .int .i64 m.el, .int .i64 m.fr.sl, .int .i64 m.fr.ol, .int .i64 m.fr.nw, .int .i64 m.fr.is, .int .i64 m.fr.os, .slice A1 m.first.length c1, .slice A2 m.step.length c2, .slice A3 m.move.length c3, .int .i64 m.sf, .int .i64 m.mf] 28 (0, 0))) := by unfold RowKit.Hid; rw [hW0]; exact heap_alloc_new _ _
  have HB0 : Hid (Below w.heap.size w W0) := by unfold RowKit.Hid; rw [hW0]; exact (Below.refl _ _).alloc (Nat.le_refl _) _
  have hz0 : w.heap.size < W0.heap.size := by rw [hW0]; simp
  clear hW0
  by_cases hbig : 16384 < k.length
  · go_wp2_with fail
    refine (imknown _).mono ?_
    rintro e w1 ⟨rfl, hb1⟩
    go_wp2_with fail
    go_ret
    exact ⟨rfl, HB0.out.trans (hb1.mono HB0.out.size)⟩
  · go_wp2_with (refine wpList_load_row rfl 28 (.tmp 2) rfl w.heap.size rfl _ _ _ _ HR0.out Try.underlying28 rfl infoImS ?_)
    refine (HLT.out _).mono ?_
    rintro e w1 ⟨rfl, hb1⟩
    have HR1 := Lib.hid ((hb1.block _ hz0).trans HR0.out)
    have HB1 := Lib.hid (HB0.out.trans (hb1.mono HB0.out.size))
    have hz1 := hb1.size
    clear hb1 HR0 HB0 HLT
    by_cases hlt : m.step.length ≤ 2000 ∧ m.move.length ≤ 2000 ∧ m.first.length ≤ 200
    · rw [decide_eq_true hlt]
      have hlen : ImLen m := ⟨by omega, by omega, by omega⟩
      have hE := fun W h => imencode m A1 A2 A3 c1 c2 c3 W h hlen hok
      have hS := fun W h h' => imsign m A1 A2 A3 c1 c2 c3 k A c W h hlen hok h' hkc (by omega) hkm
      have hC : ∀ W, ImAt W m A1 A2 A3 c1 c2 c3 → Calls Try.prog 13 #[imAgg m A1 A2 A3 c1 c2 c3] W fun e w' => e = .returned (.int .i64 (chk m)) ∧ Below W.heap.size W w' := fun W h => (imcheck m A1 A2 A3 c1 c2 c3 W h hlen hok).mono fun e w' ⟨h1, h2⟩ => ⟨h1, h2⟩
      obtain ⟨x, er, hx⟩ : ∃ x er, imEnc m = (x, er) := ⟨_, _, rfl⟩
      rw [hx] at hE
      by_cases her : er = 0
      · subst her
        obtain ⟨hpa, hop, hxl⟩ := imEnc_fine hx hok k
        have hs : imSign k m = (x ++ tagOf k x, 0) := by unfold imSign; rw [hx]; exact if_neg (fun h => h rfl)
        rw [hs] at hS
        have hP : ∀ (B : Option Addr) (d : Nat) (W : World), BytesAt W B x → x.length ≤ d → Calls Try.prog 16 #[.slice B x.length d] W (ParsePost m 0 W) := fun B d W h h' => by have := imparse x B d W h h' (by omega); rw [hpa] at this; exact this
        have hll : (x ++ tagOf k x).length = x.length + 32 := by rw [List.length_append, tagOf_len]
        have hO : ∀ (B : Option Addr) (d : Nat) (W : World), BSrc W B d (x ++ tagOf k x) → (x ++ tagOf k x).length ≤ d → BSrc W A c k → Calls Try.prog 21 #[.slice B (x ++ tagOf k x).length d, .slice A k.length c] W (ParsePost m 0 W) := fun B d W h h1 h' => by have := imopen (x ++ tagOf k x) k B d A c W h h1 h' hkc (by omega) hkm; rw [hop] at this; exact this
        have hSA := fun (B1 B2 B3 : Option Addr) (d1 d2 d3 : Nat) (W : World) (h : ImAt W m B1 B2 B3 d1 d2 d3) (h' : ImAt W m A1 A2 A3 c1 c2 c3) => refimsame m B1 B2 B3 A1 A2 A3 d1 d2 d3 c1 c2 c3 W h h' hlen
        generalize x ++ tagOf k x = y at *
        have HLL := Lib.hid hll
        clear hll
        unfold imAgg at hE hS hSA
        dsimp only at *
        have HE := Lib.hid hE
        have HS := Lib.hid hS
        have HP := Lib.hid hP
        have HO := Lib.hid hO
        have HSA := Lib.hid hSA
        clear hE hS hP hO hSA hlt hlen hok hC hx hpa hop hs
        go_wp2_with (refine wpList_load_row rfl 28 (.tmp 2) rfl w.heap.size rfl _ _ _ _ HR1.out Try.underlying28 rfl infoImS ?_)
        refine (HE.out _ (HA.out.below HB1.out (Nat.le_refl _))).mono ?_
        rintro e w2 ⟨Ax, cx, rfl, hx, hxc, hb2⟩
        have HX2 := Lib.hid hx.at_
        have HR2 := Lib.hid ((hb2.block _ (by omega)).trans HR1.out)
        have HB2 := Lib.hid (HB1.out.trans (hb2.mono HB1.out.size))
        have hz2 := hb2.size
        clear hb2 hx HR1 HB1 HE
        go_wp2_with (refine wpList_load_row rfl 28 (.tmp 2) rfl w.heap.size rfl _ _ _ _ HR2.out Try.underlying28 rfl infoImS ?_)
        refine (HS.out _ (HA.out.below HB2.out (Nat.le_refl _)) (HK.out.below HB2.out (Nat.le_refl _))).mono ?_
        rintro e w3 ⟨Ay, cy, rfl, hy, hyc, hb3⟩
        have HY3 := Lib.hid hy
        have HX3 := Lib.hid (HX2.out.below hb3 (Nat.le_refl _))
        have HR3 := Lib.hid ((hb3.block _ (by omega)).trans HR2.out)
        have HB3 := Lib.hid (HB2.out.trans (hb3.mono HB2.out.size))
        have hz3 := hb3.size
        clear hb3 hy HX2 HR2 HB2 HS
        go_wp2_with fail
        refine (HP.out Ax cx _ HX3.out hxc).mono ?_
        rintro e w4 ⟨B1, B2, B3, d1, d2, d3, rfl, hnew, hb4⟩
        have HN4 := Lib.hid hnew
        have HY4 := Lib.hid (Src.below HY3.out hb4 (Nat.le_refl _))
        have HR4 := Lib.hid ((hb4.block _ (by omega)).trans HR3.out)
        have HB4 := Lib.hid (HB3.out.trans (hb4.mono HB3.out.size))
        have hz4 := hb4.size
        clear hb4 hnew HX3 HY3 HB3 HR3 HP
        unfold imAgg
        go_wp2_with fail
        obtain ⟨W4, hW4⟩ : ∃ W, W = w4.alloc (.cells #[.int .u32 m.ver, .int .u32 m.frm, .int .i64 m.el, .int .i64 m.fr.sl, .int .i64 m.fr.ol, .int .i64 m.fr.nw, .int .i64 m.fr.is, .int .i64 m.fr.os, .slice B1 m.first.length d1, .slice B2 m.step.length d2, .slice B3 m.move.length d3, .int .i64 m.sf, .int .i64 m.mf] 28) := ⟨_, rfl⟩
        rw [← hW4]
        have HC4 : Hid (W4.heap[w4.heap.size]? = some (.cells #[.int .u32 m.ver, .int .u32 m.frm, .int .i64 m.el, .int .i64 m.fr.sl, .int .i64 m.fr.ol, .int .i64 m.fr.nw, .int .i64 m.fr.is, .int .i64 m.fr.os, .slice B1 m.first.length d1, .slice B2 m.step.length d2, .slice B3 m.move.length d3, .int .i64 m.sf, .int .i64 m.mf] 28 (0, 0))) := by unfold RowKit.Hid; rw [hW4]; exact heap_alloc_new _ _
        have hx4 : Below w4.heap.size w4 W4 := by rw [hW4]; exact (Below.refl _ _).alloc (Nat.le_refl _) _
        have hzW4 : w4.heap.size < W4.heap.size := by rw [hW4]; simp
        have HN5 := Lib.hid (HN4.out.below hx4)
        have HY5 := Lib.hid (Src.below HY4.out hx4 (Nat.le_refl _))
        have HR5 := Lib.hid ((hx4.block _ (by omega)).trans HR4.out)
        have HB5 := Lib.hid (HB4.out.trans (hx4.mono HB4.out.size))
        clear hW4 hx4 HN4 HY4 HB4 HR4
        refine (HO.out Ay cy _ HY5.out hyc (HK.out.below HB5.out (Nat.le_refl _))).mono ?_
        rintro e w6 ⟨D1, D2, D3, k1, k2, k3, rfl, hnew, hb6⟩
        have HM6 := Lib.hid hnew
        have HN6 := Lib.hid (HN5.out.below hb6)
        have HC6 := Lib.hid ((hb6.block _ hzW4).trans HC4.out)
        have HR6 := Lib.hid ((hb6.block _ (by omega)).trans HR5.out)
        have HB6 := Lib.hid (HB5.out.trans (hb6.mono HB5.out.size))
        have hz6 := hb6.size
        clear hb6 hnew HN5 HC4 HY5 HB5 HR5 HO
        unfold imAgg
        go_upto_region 13 with fail
        obtain ⟨W7, hW7⟩ : ∃ W, W = w6.alloc (.cells #[.int .u32 m.ver, .int .u32 m.frm, .int .i64 m.el, .int .i64 m.fr.sl, .int .i64 m.fr.ol, .int .i64 m.fr.nw, .int .i64 m.fr.is, .int .i64 m.fr.os, .slice D1 m.first.length k1, .slice D2 m.step.length k2, .slice D3 m.move.length k3, .int .i64 m.sf, .int .i64 m.mf] 28) := ⟨_, rfl⟩
        rw [← hW7]
        have HD7 : Hid (W7.heap[w6.heap.size]? = some (.cells #[.int .u32 m.ver, .int .u32 m.frm, .int .i64 m.el, .int .i64 m.fr.sl, .int .i64 m.fr.ol, .int .i64 m.fr.nw, .int .i64 m.fr.is, .int .i64 m.fr.os, .slice D1 m.first.length k1, .slice D2 m.step.length k2, .slice D3 m.move.length k3, .int .i64 m.sf, .int .i64 m.mf] 28 (0, 0))) := by unfold RowKit.Hid; rw [hW7]; exact heap_alloc_new _ _
        have hx7 : Below w6.heap.size w6 W7 := by rw [hW7]; exact (Below.refl _ _).alloc (Nat.le_refl _) _
        have hzW7 : w6.heap.size < W7.heap.size := by rw [hW7]; simp
        have HC7 := Lib.hid ((hx7.block _ (by omega)).trans HC6.out)
        have HR7 := Lib.hid ((hx7.block _ (by omega)).trans HR6.out)
        have HN7 := Lib.hid (HN6.out.below hx7)
        have HM7 := Lib.hid (HM6.out.below hx7)
        have HB7 := Lib.hid (HB6.out.trans (hx7.mono HB6.out.size))
        clear hW7 hx7 HC6 HN6 HM6 HB6 HR6
        have ca0 : W7.cell? ⟨w4.heap.size, 0, none⟩ = some (.int .u32 m.ver) := cell_of_row _ _ 0 _ _ (0, 0) HC7.out
        have ca1 : W7.cell? ⟨w4.heap.size, 1, none⟩ = some (.int .u32 m.frm) := cell_of_row _ _ 1 _ _ (0, 0) HC7.out
        have ca2 : W7.cell? ⟨w4.heap.size, 2, none⟩ = some (.int .i64 m.el) := cell_of_row _ _ 2 _ _ (0, 0) HC7.out
        have ca3 : W7.cell? ⟨w4.heap.size, 3, none⟩ = some (.int .i64 m.fr.sl) := cell_of_row _ _ 3 _ _ (0, 0) HC7.out
        have ca4 : W7.cell? ⟨w4.heap.size, 4, none⟩ = some (.int .i64 m.fr.ol) := cell_of_row _ _ 4 _ _ (0, 0) HC7.out
        have ca5 : W7.cell? ⟨w4.heap.size, 5, none⟩ = some (.int .i64 m.fr.nw) := cell_of_row _ _ 5 _ _ (0, 0) HC7.out
        have ca6 : W7.cell? ⟨w4.heap.size, 6, none⟩ = some (.int .i64 m.fr.is) := cell_of_row _ _ 6 _ _ (0, 0) HC7.out
        have ca7 : W7.cell? ⟨w4.heap.size, 7, none⟩ = some (.int .i64 m.fr.os) := cell_of_row _ _ 7 _ _ (0, 0) HC7.out
        have ca8 : W7.cell? ⟨w4.heap.size, 8, none⟩ = some (.slice B1 m.first.length d1) := cell_of_row _ _ 8 _ _ (0, 0) HC7.out
        have ca9 : W7.cell? ⟨w4.heap.size, 9, none⟩ = some (.slice B2 m.step.length d2) := cell_of_row _ _ 9 _ _ (0, 0) HC7.out
        have ca10 : W7.cell? ⟨w4.heap.size, 10, none⟩ = some (.slice B3 m.move.length d3) := cell_of_row _ _ 10 _ _ (0, 0) HC7.out
        have ca11 : W7.cell? ⟨w4.heap.size, 11, none⟩ = some (.int .i64 m.sf) := cell_of_row _ _ 11 _ _ (0, 0) HC7.out
        have ca12 : W7.cell? ⟨w4.heap.size, 12, none⟩ = some (.int .i64 m.mf) := cell_of_row _ _ 12 _ _ (0, 0) HC7.out
        have cb0 : W7.cell? ⟨w.heap.size, 0, none⟩ = some (.int .u32 m.ver) := cell_of_row _ _ 0 _ _ (0, 0) HR7.out
        have cb1 : W7.cell? ⟨w.heap.size, 1, none⟩ = some (.int .u32 m.frm) := cell_of_row _ _ 1 _ _ (0, 0) HR7.out
        have cb2 : W7.cell? ⟨w.heap.size, 2, none⟩ = some (.int .i64 m.el) := cell_of_row _ _ 2 _ _ (0, 0) HR7.out
        have cb3 : W7.cell? ⟨w.heap.size, 3, none⟩ = some (.int .i64 m.fr.sl) := cell_of_row _ _ 3 _ _ (0, 0) HR7.out
        have cb4 : W7.cell? ⟨w.heap.size, 4, none⟩ = some (.int .i64 m.fr.ol) := cell_of_row _ _ 4 _ _ (0, 0) HR7.out
        have cb5 : W7.cell? ⟨w.heap.size, 5, none⟩ = some (.int .i64 m.fr.nw) := cell_of_row _ _ 5 _ _ (0, 0) HR7.out
        have cb6 : W7.cell? ⟨w.heap.size, 6, none⟩ = some (.int .i64 m.fr.is) := cell_of_row _ _ 6 _ _ (0, 0) HR7.out
        have cb7 : W7.cell? ⟨w.heap.size, 7, none⟩ = some (.int .i64 m.fr.os) := cell_of_row _ _ 7 _ _ (0, 0) HR7.out
        have cb8 : W7.cell? ⟨w.heap.size, 8, none⟩ = some (.slice A1 m.first.length c1) := cell_of_row _ _ 8 _ _ (0, 0) HR7.out
        have cb9 : W7.cell? ⟨w.heap.size, 9, none⟩ = some (.slice A2 m.step.length c2) := cell_of_row _ _ 9 _ _ (0, 0) HR7.out
        have cb10 : W7.cell? ⟨w.heap.size, 10, none⟩ = some (.slice A3 m.move.length c3) := cell_of_row _ _ 10 _ _ (0, 0) HR7.out
        have cb11 : W7.cell? ⟨w.heap.size, 11, none⟩ = some (.int .i64 m.sf) := cell_of_row _ _ 11 _ _ (0, 0) HR7.out
        have cb12 : W7.cell? ⟨w.heap.size, 12, none⟩ = some (.int .i64 m.mf) := cell_of_row _ _ 12 _ _ (0, 0) HR7.out
        go_wp2_with fail
        clear ca0 cb0 ca1 cb1 ca2 cb2 ca3 cb3 ca4 cb4 ca5 cb5 ca6 cb6 ca7 cb7 ca8 cb8 ca9 cb9 ca10 cb10 ca11 cb11 ca12 cb12
        refine (HSA.out B1 B2 B3 d1 d2 d3 _ HN7.out.at_ (HA.out.below HB7.out (Nat.le_refl _))).mono ?_
        rintro e w8 ⟨rfl, hb8⟩
        have HB8 := Lib.hid (HB7.out.trans (hb8.mono HB7.out.size))
        have HD8 := Lib.hid ((hb8.block _ hzW7).trans HD7.out)
        have HR8 := Lib.hid ((hb8.block _ (by omega)).trans HR7.out)
        have HM8 := Lib.hid (HM7.out.below hb8)
        clear hb8
        have ca0 : w8.cell? ⟨w6.heap.size, 0, none⟩ = some (.int .u32 m.ver) := cell_of_row _ _ 0 _ _ (0, 0) HD8.out
        have ca1 : w8.cell? ⟨w6.heap.size, 1, none⟩ = some (.int .u32 m.frm) := cell_of_row _ _ 1 _ _ (0, 0) HD8.out
        have ca2 : w8.cell? ⟨w6.heap.size, 2, none⟩ = some (.int .i64 m.el) := cell_of_row _ _ 2 _ _ (0, 0) HD8.out
        have ca3 : w8.cell? ⟨w6.heap.size, 3, none⟩ = some (.int .i64 m.fr.sl) := cell_of_row _ _ 3 _ _ (0, 0) HD8.out
        have ca4 : w8.cell? ⟨w6.heap.size, 4, none⟩ = some (.int .i64 m.fr.ol) := cell_of_row _ _ 4 _ _ (0, 0) HD8.out
        have ca5 : w8.cell? ⟨w6.heap.size, 5, none⟩ = some (.int .i64 m.fr.nw) := cell_of_row _ _ 5 _ _ (0, 0) HD8.out
        have ca6 : w8.cell? ⟨w6.heap.size, 6, none⟩ = some (.int .i64 m.fr.is) := cell_of_row _ _ 6 _ _ (0, 0) HD8.out
        have ca7 : w8.cell? ⟨w6.heap.size, 7, none⟩ = some (.int .i64 m.fr.os) := cell_of_row _ _ 7 _ _ (0, 0) HD8.out
        have ca8 : w8.cell? ⟨w6.heap.size, 8, none⟩ = some (.slice D1 m.first.length k1) := cell_of_row _ _ 8 _ _ (0, 0) HD8.out
        have ca9 : w8.cell? ⟨w6.heap.size, 9, none⟩ = some (.slice D2 m.step.length k2) := cell_of_row _ _ 9 _ _ (0, 0) HD8.out
        have ca10 : w8.cell? ⟨w6.heap.size, 10, none⟩ = some (.slice D3 m.move.length k3) := cell_of_row _ _ 10 _ _ (0, 0) HD8.out
        have ca11 : w8.cell? ⟨w6.heap.size, 11, none⟩ = some (.int .i64 m.sf) := cell_of_row _ _ 11 _ _ (0, 0) HD8.out
        have ca12 : w8.cell? ⟨w6.heap.size, 12, none⟩ = some (.int .i64 m.mf) := cell_of_row _ _ 12 _ _ (0, 0) HD8.out
        have cb0 : w8.cell? ⟨w.heap.size, 0, none⟩ = some (.int .u32 m.ver) := cell_of_row _ _ 0 _ _ (0, 0) HR8.out
        have cb1 : w8.cell? ⟨w.heap.size, 1, none⟩ = some (.int .u32 m.frm) := cell_of_row _ _ 1 _ _ (0, 0) HR8.out
        have cb2 : w8.cell? ⟨w.heap.size, 2, none⟩ = some (.int .i64 m.el) := cell_of_row _ _ 2 _ _ (0, 0) HR8.out
        have cb3 : w8.cell? ⟨w.heap.size, 3, none⟩ = some (.int .i64 m.fr.sl) := cell_of_row _ _ 3 _ _ (0, 0) HR8.out
        have cb4 : w8.cell? ⟨w.heap.size, 4, none⟩ = some (.int .i64 m.fr.ol) := cell_of_row _ _ 4 _ _ (0, 0) HR8.out
        have cb5 : w8.cell? ⟨w.heap.size, 5, none⟩ = some (.int .i64 m.fr.nw) := cell_of_row _ _ 5 _ _ (0, 0) HR8.out
        have cb6 : w8.cell? ⟨w.heap.size, 6, none⟩ = some (.int .i64 m.fr.is) := cell_of_row _ _ 6 _ _ (0, 0) HR8.out
        have cb7 : w8.cell? ⟨w.heap.size, 7, none⟩ = some (.int .i64 m.fr.os) := cell_of_row _ _ 7 _ _ (0, 0) HR8.out
        have cb8 : w8.cell? ⟨w.heap.size, 8, none⟩ = some (.slice A1 m.first.length c1) := cell_of_row _ _ 8 _ _ (0, 0) HR8.out
        have cb9 : w8.cell? ⟨w.heap.size, 9, none⟩ = some (.slice A2 m.step.length c2) := cell_of_row _ _ 9 _ _ (0, 0) HR8.out
        have cb10 : w8.cell? ⟨w.heap.size, 10, none⟩ = some (.slice A3 m.move.length c3) := cell_of_row _ _ 10 _ _ (0, 0) HR8.out
        have cb11 : w8.cell? ⟨w.heap.size, 11, none⟩ = some (.int .i64 m.sf) := cell_of_row _ _ 11 _ _ (0, 0) HR8.out
        have cb12 : w8.cell? ⟨w.heap.size, 12, none⟩ = some (.int .i64 m.mf) := cell_of_row _ _ 12 _ _ (0, 0) HR8.out
        go_wp2_with fail
        clear ca0 cb0 ca1 cb1 ca2 cb2 ca3 cb3 ca4 cb4 ca5 cb5 ca6 cb6 ca7 cb7 ca8 cb8 ca9 cb9 ca10 cb10 ca11 cb11 ca12 cb12
        refine (HSA.out D1 D2 D3 k1 k2 k3 _ HM8.out.at_ (HA.out.below HB8.out (Nat.le_refl _))).mono ?_
        rintro e w9 ⟨rfl, hb9⟩
        have HB9 := Lib.hid (HB8.out.trans (hb9.mono HB8.out.size))
        clear hb9
        have hwr : (y.length : Int) = (x.length : Int) + 32 := by have := HLL.out; omega
        go_wp2_with fail
        refine (imknown _).mono ?_
        rintro e w10 ⟨rfl, hb10⟩
        have HB10 := Lib.hid (HB9.out.trans (hb10.mono HB9.out.size))
        clear hb10
        go_wp2_with fail
        go_ret
        exact ⟨rfl, HB10.out⟩
      · obtain ⟨rfl, hor⟩ := imEnc_bad hx her
        have hs : imSign k m = ([], er) := by unfold imSign; rw [hx]; exact if_pos her
        rw [hs] at hS
        unfold imAgg at hE hS hC
        dsimp only at *
        have be : (er == 0) = false := by simpa using her
        have be2 : (er != 0) = true := by simpa using her
        have HE := Lib.hid hE
        have HS := Lib.hid hS
        have HC := Lib.hid hC
        have HOR := Lib.hid hor
        clear hE hS hC hor hs hx hlt hlen hok
        go_wp2_with (refine wpList_load_row rfl 28 (.tmp 2) rfl w.heap.size rfl _ _ _ _ HR1.out Try.underlying28 rfl infoImS ?_)
        refine (HE.out _ (HA.out.below HB1.out (Nat.le_refl _))).mono ?_
        rintro e w2 ⟨Ax, cx, rfl, hx, hxc, hb2⟩
        have HR2 := Lib.hid ((hb2.block _ (by omega)).trans HR1.out)
        have HB2 := Lib.hid (HB1.out.trans (hb2.mono HB1.out.size))
        have hz2 := hb2.size
        clear hb2 hx HR1 HB1 HE
        go_wp2_with (refine wpList_load_row rfl 28 (.tmp 2) rfl w.heap.size rfl _ _ _ _ HR2.out Try.underlying28 rfl infoImS ?_)
        refine (HS.out _ (HA.out.below HB2.out (Nat.le_refl _)) (HK.out.below HB2.out (Nat.le_refl _))).mono ?_
        rintro e w3 ⟨Ay, cy, rfl, hy, hyc, hb3⟩
        have HR3 := Lib.hid ((hb3.block _ (by omega)).trans HR2.out)
        have HB3 := Lib.hid (HB2.out.trans (hb3.mono HB2.out.size))
        have hz3 := hb3.size
        clear hb3 hy HR2 HB2 HS
        have ca0 : w3.cell? ⟨w.heap.size, 0, none⟩ = some (.int .u32 m.ver) := cell_of_row _ _ 0 _ _ (0, 0) HR3.out
        have ca1 : w3.cell? ⟨w.heap.size, 1, none⟩ = some (.int .u32 m.frm) := cell_of_row _ _ 1 _ _ (0, 0) HR3.out
        have ca2 : w3.cell? ⟨w.heap.size, 2, none⟩ = some (.int .i64 m.el) := cell_of_row _ _ 2 _ _ (0, 0) HR3.out
        have ca3 : w3.cell? ⟨w.heap.size, 3, none⟩ = some (.int .i64 m.fr.sl) := cell_of_row _ _ 3 _ _ (0, 0) HR3.out
        have ca4 : w3.cell? ⟨w.heap.size, 4, none⟩ = some (.int .i64 m.fr.ol) := cell_of_row _ _ 4 _ _ (0, 0) HR3.out
        have ca5 : w3.cell? ⟨w.heap.size, 5, none⟩ = some (.int .i64 m.fr.nw) := cell_of_row _ _ 5 _ _ (0, 0) HR3.out
        have ca6 : w3.cell? ⟨w.heap.size, 6, none⟩ = some (.int .i64 m.fr.is) := cell_of_row _ _ 6 _ _ (0, 0) HR3.out
        have ca7 : w3.cell? ⟨w.heap.size, 7, none⟩ = some (.int .i64 m.fr.os) := cell_of_row _ _ 7 _ _ (0, 0) HR3.out
        have ca8 : w3.cell? ⟨w.heap.size, 8, none⟩ = some (.slice A1 m.first.length c1) := cell_of_row _ _ 8 _ _ (0, 0) HR3.out
        have ca9 : w3.cell? ⟨w.heap.size, 9, none⟩ = some (.slice A2 m.step.length c2) := cell_of_row _ _ 9 _ _ (0, 0) HR3.out
        have ca10 : w3.cell? ⟨w.heap.size, 10, none⟩ = some (.slice A3 m.move.length c3) := cell_of_row _ _ 10 _ _ (0, 0) HR3.out
        have ca11 : w3.cell? ⟨w.heap.size, 11, none⟩ = some (.int .i64 m.sf) := cell_of_row _ _ 11 _ _ (0, 0) HR3.out
        have ca12 : w3.cell? ⟨w.heap.size, 12, none⟩ = some (.int .i64 m.mf) := cell_of_row _ _ 12 _ _ (0, 0) HR3.out
        go_wp2_with fail
        clear ca0 ca1 ca2 ca3 ca4 ca5 ca6 ca7 ca8 ca9 ca10 ca11 ca12
        refine (HC.out _ (HA.out.below HB3.out (Nat.le_refl _))).mono ?_
        rintro e w4 ⟨rfl, hb4⟩
        have HB4 := Lib.hid (HB3.out.trans (hb4.mono HB3.out.size))
        clear hb4
        rcases HOR.out with ⟨h1, h2⟩ | ⟨h1, h2⟩
        · rw [h1]
          subst h2
          go_wp2_with fail
          refine (imknown _).mono ?_
          rintro e w5 ⟨rfl, hb5⟩
          have HB5 := Lib.hid (HB4.out.trans (hb5.mono HB4.out.size))
          clear hb5
          go_wp2_with fail
          go_ret
          exact ⟨rfl, HB5.out⟩
        · rw [← h2]
          clear h1 h2
          go_wp2_with fail
          refine (imknown _).mono ?_
          rintro e w5 ⟨rfl, hb5⟩
          have HB5 := Lib.hid (HB4.out.trans (hb5.mono HB4.out.size))
          clear hb5
          go_wp2_with fail
          go_ret
          exact ⟨rfl, HB5.out⟩
    · rw [decide_eq_false hlt]
      go_wp2_with fail
      refine (imknown _).mono ?_
      rintro e w2 ⟨rfl, hb2⟩
      go_wp2_with fail
      go_ret
      exact ⟨rfl, HB1.out.trans (hb2.mono HB1.out.size)⟩
end Go.Proofs.Ytjhopgmionpkoaa
