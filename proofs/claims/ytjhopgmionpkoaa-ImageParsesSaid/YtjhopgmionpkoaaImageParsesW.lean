/-
  The walk of the law ImageParses: any bytes are read as an image as the document says, or refused.
-/
import Derived.Test.YtjhopgmionpkoaaImK
import Derived.Test.YtjhopgmionpkoaaIm6
import Derived.Test.YtjhopgmionpkoaaImM
import Derived.Test.YtjhopgmionpkoaaImN
import Derived.Test.YtjhopgmionpkoaaIsa1
import Derived.Test.YtjhopgmionpkoaaBytes
namespace Go.Proofs.Ytjhopgmionpkoaa
set_option maxRecDepth 20000
open Go.RowKit Mem

theorem imown_kept {w w' : World} {B size n : Nat} {e : TypeId} {vx vy : Value} {ys : List Value} (hy : w.ownsRow B e size vy n ys) (hx : ∀ k, vx.ownBlock = some k → k < B) (hg : w.grownBy w' vx.ownBlock) : w'.ownsRow B e size vy n ys := by
  refine hy.kept hg ?_
  rcases hb : vy.ownBlock with _ | k
  · exact .inl rfl
  · right
    intro h
    have h1 := (hy.lt k hb).1
    have h2 := hx k h.symm
    omega
theorem imNew_kept {w w' : World} {B : Nat} {m : Im} {A1 A2 A3 : Option Addr} {c1 c2 c3 : Nat} {vx : Value} (h : ImNew B w m A1 A2 A3 c1 c2 c3) (hx : ∀ k, vx.ownBlock = some k → k < B) (hg : w.grownBy w' vx.ownBlock) : ImNew B w' m A1 A2 A3 c1 c2 c3 :=
  ⟨imown_kept h.first hx hg, imown_kept h.step hx hg, imown_kept h.move hx hg⟩
theorem imParse_len (bs : Ia.Bs) : ImLen (imParse bs).1 := by
  have hz : ImLen Im.zero := ⟨Nat.zero_le _, Nat.zero_le _, Nat.zero_le _⟩
  unfold imParse
  by_cases h : 2016 < bs.length
  · rw [if_pos h]; exact hz
  · rw [if_neg h]
    cases hr : rd bs with
    | none => exact hz
    | some m =>
      dsimp only
      by_cases hc : chk m ≠ 0
      · rw [if_pos hc]; exact hz
      · rw [if_neg hc]
        have hf := (rd_only hr).2.1
        exact ⟨by have := hf.fl; dsimp only; omega, by have := hf.se.2; dsimp only; omega, by have := hf.me.2; dsimp only; omega⟩
set_option maxRecDepth 100000 in
set_option maxHeartbeats 8000000 in
theorem imageParses_walk (w : World) (A : Option Addr) (c : Nat) (bs : List UInt8) (hw : BSrc w A c bs ∧ bs.length ≤ c ∧ c ≤ 140737488351232) :
    Calls Try.prog 4 #[.slice A bs.length c] w fun e w' => e = .returned (.bool true) ∧ Below w.heap.size w w' := by
  obtain ⟨hA, hcap, hcm⟩ := hw
  have hn : bs.length ≤ 140737488351232 := by omega
  have HA := Lib.hid hA
  clear hA
  by_cases hbig : 10000 < bs.length
  · go_enter Try.func4, Try.ntmps4
    go_wp2_with fail
    refine (imknown _).mono ?_
    rintro e w1 ⟨rfl, hb1⟩
    go_wp2_with fail
    go_ret
    exact ⟨rfl, hb1⟩
  · go_enter Try.func4, Try.ntmps4
    go_wp2_with fail
    refine (wlent bs A c _ HA.out hn).mono ?_
    rintro e w1 ⟨Ao, co, rfl, hl1, hb1⟩
    have hco : bs.length ≤ co := by
      obtain ⟨g, _, _, _, h1, _, _⟩ := hl1.form
      omega
    have HL1 := Lib.hid hl1
    have HB1 := Lib.hid hb1
    clear hl1 hb1
    have HP := Lib.hid (fun (A : Option Addr) (c : Nat) (W : World) (h : BytesAt W A bs) (hc : bs.length ≤ c) => imparse bs A c W h hc (by omega))
    have HQ := Lib.hid (fun (A : Option Addr) (c : Nat) (W : World) (h : BytesAt W A bs) (hc : bs.length ≤ c) => refimparse bs A c W h hc (by omega))
    have HLEN := Lib.hid (imParse_len bs)
    generalize imParse bs = r at *
    obtain ⟨m, er⟩ := r
    have HSA := Lib.hid (fun (A1 A2 A3 B1 B2 B3 : Option Addr) (c1 c2 c3 d1 d2 d3 : Nat) (W : World) (h : ImAt W m A1 A2 A3 c1 c2 c3) (h' : ImAt W m B1 B2 B3 d1 d2 d3) => refimsame m A1 A2 A3 B1 B2 B3 c1 c2 c3 d1 d2 d3 W h h' HLEN.out)
    unfold imAgg at HSA
    dsimp only at *
    go_wp2_with fail
    refine (HP.out Ao co _ HL1.out.at_ hco).mono ?_
    rintro e w2 ⟨A1, A2, A3, c1, c2, c3, rfl, hnew, hb2⟩
    have HM := Lib.hid hnew
    have HB2 := Lib.hid hb2
    have hz2 := hb2.size
    clear hnew hb2
    unfold imAgg
    go_wp2_with fail
    obtain ⟨W2, hW2⟩ : ∃ W, W = w2.alloc (.cells #[.int .u32 m.ver, .int .u32 m.frm, .int .i64 m.el, .int .i64 m.fr.sl, .int .i64 m.fr.ol, .int .i64 m.fr.nw, .int .i64 m.fr.is, .int .i64 m.fr.os, .slice A1 m.first.length c1, .slice A2 m.step.length c2, .slice A3 m.move.length c3, .int .i64 m.sf, .int .i64 m.mf] 28) := ⟨_, rfl⟩
    rw [← hW2]
    have HR2 : Hid (W2.heap[w2.heap.size]? = some (.cells #[.int .u32 m.ver, .int .u32 m.frm, .int .i64 m.el, .int .i64 m.fr.sl, .int .i64 m.fr.ol, .int .i64 m.fr.nw, .int .i64 m.fr.is, .int .i64 m.fr.os, .slice A1 m.first.length c1, .slice A2 m.step.length c2, .slice A3 m.move.length c3, .int .i64 m.sf, .int .i64 m.mf] 28 (0, 0))) := by unfold RowKit.Hid; rw [hW2]; exact heap_alloc_new _ _
    have HB12 : Hid (Below w1.heap.size w1 W2) := by unfold RowKit.Hid; rw [hW2]; exact HB2.out.alloc hz2 _
    have HM2 : Hid (ImNew w1.heap.size W2 m A1 A2 A3 c1 c2 c3) := by unfold RowKit.Hid; rw [hW2]; exact HM.out.below ((Below.refl _ _).alloc (Nat.le_refl _) _)
    have hzW2 : w2.heap.size < W2.heap.size := by rw [hW2]; simp
    have HMlt : Hid (∀ k, (Value.slice A2 m.step.length c2).ownBlock = some k → w1.heap.size ≤ k ∧ k < w2.heap.size) := fun k hk => HM.out.step.lt k hk
    clear hW2 HM
    refine (HQ.out A c _ ((HA.out.at_.below HB1.out (Nat.le_refl _)).below HB12.out (Nat.le_refl _)) hcap).mono ?_
    rintro e w3 ⟨B1, B2, B3, d1, d2, d3, rfl, hnew, hb3⟩
    have HN := Lib.hid hnew
    have HB3 := Lib.hid hb3
    have hz3 := hb3.size
    clear hnew hb3
    unfold imAgg
    go_upto_region 6 with fail
    obtain ⟨W3, hW3⟩ : ∃ W, W = w3.alloc (.cells #[.int .u32 m.ver, .int .u32 m.frm, .int .i64 m.el, .int .i64 m.fr.sl, .int .i64 m.fr.ol, .int .i64 m.fr.nw, .int .i64 m.fr.is, .int .i64 m.fr.os, .slice B1 m.first.length d1, .slice B2 m.step.length d2, .slice B3 m.move.length d3, .int .i64 m.sf, .int .i64 m.mf] 28) := ⟨_, rfl⟩
    rw [← hW3]
    have HX3 : Hid (Below W2.heap.size W2 W3) := by unfold RowKit.Hid; rw [hW3]; exact HB3.out.alloc hz3 _
    have HR4 : Hid (W3.heap[w2.heap.size]? = some (.cells #[.int .u32 m.ver, .int .u32 m.frm, .int .i64 m.el, .int .i64 m.fr.sl, .int .i64 m.fr.ol, .int .i64 m.fr.nw, .int .i64 m.fr.is, .int .i64 m.fr.os, .slice A1 m.first.length c1, .slice A2 m.step.length c2, .slice A3 m.move.length c3, .int .i64 m.sf, .int .i64 m.mf] 28 (0, 0))) := (HX3.out.block _ hzW2).trans HR2.out
    have HR6 : Hid (W3.heap[w3.heap.size]? = some (.cells #[.int .u32 m.ver, .int .u32 m.frm, .int .i64 m.el, .int .i64 m.fr.sl, .int .i64 m.fr.ol, .int .i64 m.fr.nw, .int .i64 m.fr.is, .int .i64 m.fr.os, .slice B1 m.first.length d1, .slice B2 m.step.length d2, .slice B3 m.move.length d3, .int .i64 m.sf, .int .i64 m.mf] 28 (0, 0))) := by unfold RowKit.Hid; rw [hW3]; exact heap_alloc_new _ _
    have HM3 := Lib.hid (HM2.out.below (HX3.out))
    have HN3 : Hid (ImNew W2.heap.size W3 m B1 B2 B3 d1 d2 d3) := by unfold RowKit.Hid; rw [hW3]; exact HN.out.below ((Below.refl _ _).alloc (Nat.le_refl _) _)
    have HB13 : Hid (Below w1.heap.size w1 W3) := HB12.out.trans (HX3.out.mono HB12.out.size)
    have hzW3 : w3.heap.size < W3.heap.size := by rw [hW3]; simp
    clear hW3 HR2 HM2 HN HB3 HX3 HB12
    go_wp2_with (first | refine wpList_load_row rfl 28 (.tmp 4) rfl w2.heap.size rfl _ _ _ _ HR4.out Try.underlying28 rfl infoImS ?_ | refine wpList_load_row rfl 28 (.tmp 6) rfl w3.heap.size rfl _ _ _ _ HR6.out Try.underlying28 rfl infoImS ?_)
    refine (HSA.out A1 A2 A3 B1 B2 B3 c1 c2 c3 d1 d2 d3 _ HM3.out.at_ HN3.out.at_).mono ?_
    rintro e w4 ⟨rfl, hb4⟩
    have HR44 := Lib.hid ((hb4.block _ (by omega)).trans HR4.out)
    have HR64 := Lib.hid ((hb4.block _ hzW3).trans HR6.out)
    have HM4 := Lib.hid (HM3.out.below hb4)
    have HN4 := Lib.hid (HN3.out.below hb4)
    have HB14 := Lib.hid (HB13.out.trans (hb4.mono HB13.out.size))
    have hz4 := hb4.size
    clear hb4 HR4 HR6 HM3 HN3 HB13
    go_wp2_with fail
    refine (wkept bs Ao A co c w.heap.size _ (HL1.out.below HB14.out (Nat.le_refl _)) ((HA.out.at_.below HB1.out (Nat.le_refl _)).below HB14.out (Nat.le_refl _))).mono ?_
    rintro e w5 ⟨rfl, rfl⟩
    have cj : w4.cell? ⟨w2.heap.size, 9, none⟩ = some (.slice A2 m.step.length c2) := cell_of_row _ _ 9 _ _ (0, 0) HR44.out
    go_wp2_with fail
    clear cj
    refine (inspoil m.step (.slice A2 m.step.length c2) w1.heap.size _ HM4.out.step (by have h : m.step.length ≤ 35184372087808 := HLEN.out.step; omega)).mono ?_
    rintro e w6 ⟨⟨r6, rfl⟩, hg6⟩
    have HB16 := Lib.hid (HB14.out.trans (below_of_grown hg6 HB14.out.size (fun g hg => (HMlt.out g hg).1)))
    have HN6 := Lib.hid (imNew_kept HN4.out (fun k hk => by have := (HMlt.out k hk).2; omega) hg6)
    have HR66 := Lib.hid ((hg6.block w3.heap.size (by omega) (fun h => by have := (HMlt.out _ h.symm).2; omega)).trans HR64.out)
    have hz6 := hg6.size
    clear hg6 HM4 HN4 HR44 HR64 HB14
    go_wp2_with fail
    refine (HP.out Ao co _ (HL1.out.at_.below HB16.out (Nat.le_refl _)) hco).mono ?_
    rintro e w7 ⟨D1, D2, D3, k1, k2, k3, rfl, hnew, hb7⟩
    have HK := Lib.hid hnew
    have HN7 := Lib.hid (HN6.out.below hb7)
    have HR67 := Lib.hid ((hb7.block _ (by omega)).trans HR66.out)
    have HB17 := Lib.hid (HB16.out.trans (hb7.mono HB16.out.size))
    have hz7 := hb7.size
    clear hnew hb7 HN6 HR66 HB16
    unfold imAgg
    go_upto_region 9 with fail
    obtain ⟨W8, hW8⟩ : ∃ W, W = w7.alloc (.cells #[.int .u32 m.ver, .int .u32 m.frm, .int .i64 m.el, .int .i64 m.fr.sl, .int .i64 m.fr.ol, .int .i64 m.fr.nw, .int .i64 m.fr.is, .int .i64 m.fr.os, .slice D1 m.first.length k1, .slice D2 m.step.length k2, .slice D3 m.move.length k3, .int .i64 m.sf, .int .i64 m.mf] 28) := ⟨_, rfl⟩
    rw [← hW8]
    have HX8 : Hid (Below w7.heap.size w7 W8) := by unfold RowKit.Hid; rw [hW8]; exact (Below.refl _ _).alloc (Nat.le_refl _) _
    have HR9 : Hid (W8.heap[w7.heap.size]? = some (.cells #[.int .u32 m.ver, .int .u32 m.frm, .int .i64 m.el, .int .i64 m.fr.sl, .int .i64 m.fr.ol, .int .i64 m.fr.nw, .int .i64 m.fr.is, .int .i64 m.fr.os, .slice D1 m.first.length k1, .slice D2 m.step.length k2, .slice D3 m.move.length k3, .int .i64 m.sf, .int .i64 m.mf] 28 (0, 0))) := by unfold RowKit.Hid; rw [hW8]; exact heap_alloc_new _ _
    have HR68 := Lib.hid ((HX8.out.block _ (by omega)).trans HR67.out)
    have HK8 := Lib.hid (HK.out.below HX8.out)
    have HN8 := Lib.hid (HN7.out.below HX8.out)
    have HB18 := Lib.hid (HB17.out.trans (HX8.out.mono HB17.out.size))
    clear hW8 HX8 HK HN7 HR67 HB17
    have ca0 : W8.cell? ⟨w7.heap.size, 0, none⟩ = some (.int .u32 m.ver) := cell_of_row _ _ 0 _ _ (0, 0) HR9.out
    have ca1 : W8.cell? ⟨w7.heap.size, 1, none⟩ = some (.int .u32 m.frm) := cell_of_row _ _ 1 _ _ (0, 0) HR9.out
    have ca2 : W8.cell? ⟨w7.heap.size, 2, none⟩ = some (.int .i64 m.el) := cell_of_row _ _ 2 _ _ (0, 0) HR9.out
    have ca3 : W8.cell? ⟨w7.heap.size, 3, none⟩ = some (.int .i64 m.fr.sl) := cell_of_row _ _ 3 _ _ (0, 0) HR9.out
    have ca4 : W8.cell? ⟨w7.heap.size, 4, none⟩ = some (.int .i64 m.fr.ol) := cell_of_row _ _ 4 _ _ (0, 0) HR9.out
    have ca5 : W8.cell? ⟨w7.heap.size, 5, none⟩ = some (.int .i64 m.fr.nw) := cell_of_row _ _ 5 _ _ (0, 0) HR9.out
    have ca6 : W8.cell? ⟨w7.heap.size, 6, none⟩ = some (.int .i64 m.fr.is) := cell_of_row _ _ 6 _ _ (0, 0) HR9.out
    have ca7 : W8.cell? ⟨w7.heap.size, 7, none⟩ = some (.int .i64 m.fr.os) := cell_of_row _ _ 7 _ _ (0, 0) HR9.out
    have ca8 : W8.cell? ⟨w7.heap.size, 8, none⟩ = some (.slice D1 m.first.length k1) := cell_of_row _ _ 8 _ _ (0, 0) HR9.out
    have ca9 : W8.cell? ⟨w7.heap.size, 9, none⟩ = some (.slice D2 m.step.length k2) := cell_of_row _ _ 9 _ _ (0, 0) HR9.out
    have ca10 : W8.cell? ⟨w7.heap.size, 10, none⟩ = some (.slice D3 m.move.length k3) := cell_of_row _ _ 10 _ _ (0, 0) HR9.out
    have ca11 : W8.cell? ⟨w7.heap.size, 11, none⟩ = some (.int .i64 m.sf) := cell_of_row _ _ 11 _ _ (0, 0) HR9.out
    have ca12 : W8.cell? ⟨w7.heap.size, 12, none⟩ = some (.int .i64 m.mf) := cell_of_row _ _ 12 _ _ (0, 0) HR9.out
    have cb0 : W8.cell? ⟨w3.heap.size, 0, none⟩ = some (.int .u32 m.ver) := cell_of_row _ _ 0 _ _ (0, 0) HR68.out
    have cb1 : W8.cell? ⟨w3.heap.size, 1, none⟩ = some (.int .u32 m.frm) := cell_of_row _ _ 1 _ _ (0, 0) HR68.out
    have cb2 : W8.cell? ⟨w3.heap.size, 2, none⟩ = some (.int .i64 m.el) := cell_of_row _ _ 2 _ _ (0, 0) HR68.out
    have cb3 : W8.cell? ⟨w3.heap.size, 3, none⟩ = some (.int .i64 m.fr.sl) := cell_of_row _ _ 3 _ _ (0, 0) HR68.out
    have cb4 : W8.cell? ⟨w3.heap.size, 4, none⟩ = some (.int .i64 m.fr.ol) := cell_of_row _ _ 4 _ _ (0, 0) HR68.out
    have cb5 : W8.cell? ⟨w3.heap.size, 5, none⟩ = some (.int .i64 m.fr.nw) := cell_of_row _ _ 5 _ _ (0, 0) HR68.out
    have cb6 : W8.cell? ⟨w3.heap.size, 6, none⟩ = some (.int .i64 m.fr.is) := cell_of_row _ _ 6 _ _ (0, 0) HR68.out
    have cb7 : W8.cell? ⟨w3.heap.size, 7, none⟩ = some (.int .i64 m.fr.os) := cell_of_row _ _ 7 _ _ (0, 0) HR68.out
    have cb8 : W8.cell? ⟨w3.heap.size, 8, none⟩ = some (.slice B1 m.first.length d1) := cell_of_row _ _ 8 _ _ (0, 0) HR68.out
    have cb9 : W8.cell? ⟨w3.heap.size, 9, none⟩ = some (.slice B2 m.step.length d2) := cell_of_row _ _ 9 _ _ (0, 0) HR68.out
    have cb10 : W8.cell? ⟨w3.heap.size, 10, none⟩ = some (.slice B3 m.move.length d3) := cell_of_row _ _ 10 _ _ (0, 0) HR68.out
    have cb11 : W8.cell? ⟨w3.heap.size, 11, none⟩ = some (.int .i64 m.sf) := cell_of_row _ _ 11 _ _ (0, 0) HR68.out
    have cb12 : W8.cell? ⟨w3.heap.size, 12, none⟩ = some (.int .i64 m.mf) := cell_of_row _ _ 12 _ _ (0, 0) HR68.out
    go_wp2_with fail
    clear ca0 cb0 ca1 cb1 ca2 cb2 ca3 cb3 ca4 cb4 ca5 cb5 ca6 cb6 ca7 cb7 ca8 cb8 ca9 cb9 ca10 cb10 ca11 cb11 ca12 cb12
    refine (HSA.out D1 D2 D3 B1 B2 B3 k1 k2 k3 d1 d2 d3 _ HK8.out.at_ HN8.out.at_).mono ?_
    rintro e w9 ⟨rfl, hb9⟩
    have HB19 := Lib.hid (HB18.out.trans (hb9.mono HB18.out.size))
    clear hb9
    go_wp2_with fail
    refine (imknown _).mono ?_
    rintro e w10 ⟨rfl, hb10⟩
    go_wp2_with fail
    go_ret
    exact ⟨rfl, HB1.out.trans ((HB19.out.trans (hb10.mono HB19.out.size)).mono HB1.out.size)⟩
end Go.Proofs.Ytjhopgmionpkoaa
