/-
  The walk of the law ImageOnly: whatever bytes are read as an image are just those that it is laid down in.
-/
import Derived.Test.YtjhopgmionpkoaaImK
import Derived.Test.YtjhopgmionpkoaaImM
import Derived.Test.YtjhopgmionpkoaaImN
import Derived.Test.YtjhopgmionpkoaaBytes
namespace Go.Proofs.Ytjhopgmionpkoaa
set_option maxRecDepth 20000
open Go.RowKit Mem

theorem imParse_fine {bs : Ia.Bs} {m : Im} (h : imParse bs = (m, 0)) : imEnc m = (bs, 0) ∧ chk m = 0 ∧ ImLen m ∧ ImOk m := by
  unfold imParse at h
  by_cases hb : 2016 < bs.length
  · rw [if_pos hb] at h; cases h
  · rw [if_neg hb] at h
    cases hr : rd bs with
    | none => rw [hr] at h; cases h
    | some m' =>
      rw [hr] at h
      dsimp only at h
      by_cases hc : chk m' ≠ 0
      · rw [if_pos hc] at h
        injection h with h1 h2
        exact absurd h2 hc
      · rw [if_neg hc] at h
        injection h with h1 h2
        subst h1
        obtain ⟨h1, hf, _⟩ := rd_only hr
        have hc0 : chk m' = 0 := by omega
        refine ⟨?_, hc0, ⟨by have := hf.fl; omega, by have := hf.se.2; omega, by have := hf.me.2; omega⟩, hf.toImOk⟩
        unfold imEnc
        rw [if_neg hc, h1, if_neg hb]
theorem imParse_wrong {bs : Ia.Bs} {m : Im} {er : Int} (h : imParse bs = (m, er)) (he : er ≠ 0) : m = Im.zero := by
  unfold imParse at h
  by_cases hb : 2016 < bs.length
  · rw [if_pos hb] at h; injection h with h1 _; exact h1.symm
  · rw [if_neg hb] at h
    cases hr : rd bs with
    | none => rw [hr] at h; injection h with h1 _; exact h1.symm
    | some m' =>
      rw [hr] at h
      dsimp only at h
      by_cases hc : chk m' ≠ 0
      · rw [if_pos hc] at h; injection h with h1 _; exact h1.symm
      · rw [if_neg hc] at h; injection h with _ h2; exact absurd h2.symm he
set_option maxRecDepth 100000 in
set_option maxHeartbeats 8000000 in
theorem imageOnly_walk (w : World) (A : Option Addr) (c : Nat) (bs : List UInt8) (hw : BSrc w A c bs ∧ bs.length ≤ c ∧ c ≤ 140737488351232) :
    Calls Try.prog 5 #[.slice A bs.length c] w fun e w' => e = .returned (.bool true) ∧ Below w.heap.size w w' := by
  obtain ⟨hA, hcap, hcm⟩ := hw
  have HA := Lib.hid hA
  clear hA
  by_cases hbig : 10000 < bs.length
  · go_enter Try.func5, Try.ntmps5
    go_wp2_with fail
    refine (imknown _).mono ?_
    rintro e w1 ⟨rfl, hb1⟩
    go_wp2_with fail
    go_ret
    exact ⟨rfl, hb1⟩
  · obtain ⟨m, er, hp⟩ : ∃ m er, imParse bs = (m, er) := ⟨_, _, rfl⟩
    have hpp := imparse bs A c w HA.out.at_ hcap (by omega)
    rw [hp] at hpp
    have HPP := Lib.hid hpp
    have HP := Lib.hid hp
    clear hpp hp
    go_enter Try.func5, Try.ntmps5
    go_wp2_with fail
    refine HPP.out.mono ?_
    rintro e w2 ⟨A1, A2, A3, c1, c2, c3, rfl, hnew, hb2⟩
    have HM := Lib.hid hnew
    have HB2 := Lib.hid hb2
    have hz2 := hb2.size
    clear hnew hb2 HPP
    dsimp only
    unfold imAgg
    go_upto_region 4 with fail
    obtain ⟨W2, hW2⟩ : ∃ W, W = w2.alloc (.cells #[.int .u32 m.ver, .int .u32 m.frm, .int .i64 m.el, .int .i64 m.fr.sl, .int .i64 m.fr.ol, .int .i64 m.fr.nw, .int .i64 m.fr.is, .int .i64 m.fr.os, .slice A1 m.first.length c1, .slice A2 m.step.length c2, .slice A3 m.move.length c3, .int .i64 m.sf, .int .i64 m.mf] 28) := ⟨_, rfl⟩
    rw [← hW2]
    have HR2 : Hid (W2.heap[w2.heap.size]? = some (.cells #[.int .u32 m.ver, .int .u32 m.frm, .int .i64 m.el, .int .i64 m.fr.sl, .int .i64 m.fr.ol, .int .i64 m.fr.nw, .int .i64 m.fr.is, .int .i64 m.fr.os, .slice A1 m.first.length c1, .slice A2 m.step.length c2, .slice A3 m.move.length c3, .int .i64 m.sf, .int .i64 m.mf] 28 (0, 0))) := by unfold RowKit.Hid; rw [hW2]; exact heap_alloc_new _ _
    have HB12 : Hid (Below w.heap.size w W2) := by unfold RowKit.Hid; rw [hW2]; exact HB2.out.alloc hz2 _
    have HM2 : Hid (ImNew w.heap.size W2 m A1 A2 A3 c1 c2 c3) := by unfold RowKit.Hid; rw [hW2]; exact HM.out.below ((Below.refl _ _).alloc (Nat.le_refl _) _)
    have hzW2 : w2.heap.size < W2.heap.size := by rw [hW2]; simp
    clear hW2 HM HB2
    by_cases her : er = 0
    · subst her
      obtain ⟨hen, hck, hlen, hok⟩ := imParse_fine HP.out
      have hE := fun W h => imencode m A1 A2 A3 c1 c2 c3 W h hlen hok
      have hC : ∀ W, ImAt W m A1 A2 A3 c1 c2 c3 → Calls Try.prog 13 #[imAgg m A1 A2 A3 c1 c2 c3] W fun e w' => e = .returned (.int .i64 0) ∧ Below W.heap.size W w' := fun W h => (imcheck m A1 A2 A3 c1 c2 c3 W h hlen hok).mono fun e w' ⟨h1, h2⟩ => ⟨by rw [h1, hck], h2⟩
      rw [hen] at hE
      unfold imAgg at hE hC
      have HE := Lib.hid hE
      have HC := Lib.hid hC
      clear hE hC hen hck hlen hok
      go_wp2_with (refine wpList_load_row rfl 28 (.tmp 3) rfl w2.heap.size rfl _ _ _ _ HR2.out Try.underlying28 rfl infoImS ?_)
      refine (HE.out _ HM2.out.at_).mono ?_
      rintro e w3 ⟨Ax, cx, rfl, hx, _, hb3⟩
      have HB13 := Lib.hid (HB12.out.trans (hb3.mono HB12.out.size))
      have HM3 := Lib.hid (HM2.out.below hb3)
      have HR3 := Lib.hid ((hb3.block _ hzW2).trans HR2.out)
      clear hb3 HR2
      have cb1 := conv_bytes w3 Ax cx bs hx.at_
      have cb2 := conv_bytes w3 A c bs (HA.out.at_.below HB13.out (Nat.le_refl _))
      have ca0 : w3.cell? ⟨w2.heap.size, 0, none⟩ = some (.int .u32 m.ver) := cell_of_row _ _ 0 _ _ (0, 0) HR3.out
      have ca1 : w3.cell? ⟨w2.heap.size, 1, none⟩ = some (.int .u32 m.frm) := cell_of_row _ _ 1 _ _ (0, 0) HR3.out
      have ca2 : w3.cell? ⟨w2.heap.size, 2, none⟩ = some (.int .i64 m.el) := cell_of_row _ _ 2 _ _ (0, 0) HR3.out
      have ca3 : w3.cell? ⟨w2.heap.size, 3, none⟩ = some (.int .i64 m.fr.sl) := cell_of_row _ _ 3 _ _ (0, 0) HR3.out
      have ca4 : w3.cell? ⟨w2.heap.size, 4, none⟩ = some (.int .i64 m.fr.ol) := cell_of_row _ _ 4 _ _ (0, 0) HR3.out
      have ca5 : w3.cell? ⟨w2.heap.size, 5, none⟩ = some (.int .i64 m.fr.nw) := cell_of_row _ _ 5 _ _ (0, 0) HR3.out
      have ca6 : w3.cell? ⟨w2.heap.size, 6, none⟩ = some (.int .i64 m.fr.is) := cell_of_row _ _ 6 _ _ (0, 0) HR3.out
      have ca7 : w3.cell? ⟨w2.heap.size, 7, none⟩ = some (.int .i64 m.fr.os) := cell_of_row _ _ 7 _ _ (0, 0) HR3.out
      have ca8 : w3.cell? ⟨w2.heap.size, 8, none⟩ = some (.slice A1 m.first.length c1) := cell_of_row _ _ 8 _ _ (0, 0) HR3.out
      have ca9 : w3.cell? ⟨w2.heap.size, 9, none⟩ = some (.slice A2 m.step.length c2) := cell_of_row _ _ 9 _ _ (0, 0) HR3.out
      have ca10 : w3.cell? ⟨w2.heap.size, 10, none⟩ = some (.slice A3 m.move.length c3) := cell_of_row _ _ 10 _ _ (0, 0) HR3.out
      have ca11 : w3.cell? ⟨w2.heap.size, 11, none⟩ = some (.int .i64 m.sf) := cell_of_row _ _ 11 _ _ (0, 0) HR3.out
      have ca12 : w3.cell? ⟨w2.heap.size, 12, none⟩ = some (.int .i64 m.mf) := cell_of_row _ _ 12 _ _ (0, 0) HR3.out
      go_wp2_with fail
      clear cb1 cb2 ca0 ca1 ca2 ca3 ca4 ca5 ca6 ca7 ca8 ca9 ca10 ca11 ca12
      refine (HC.out _ HM3.out.at_).mono ?_
      rintro e w4 ⟨rfl, hb4⟩
      have HB14 := Lib.hid (HB13.out.trans (hb4.mono HB13.out.size))
      clear hb4
      go_wp2_with fail
      refine (imknown _).mono ?_
      rintro e w5 ⟨rfl, hb5⟩
      have HB15 := Lib.hid (HB14.out.trans (hb5.mono HB14.out.size))
      clear hb5
      go_wp2_with fail
      go_ret
      exact ⟨rfl, HB15.out⟩
    · obtain rfl := imParse_wrong HP.out her
      have HS : Hid (∀ W, ImAt W Im.zero A1 A2 A3 c1 c2 c3 → ImAt W Im.zero none none none 0 0 0 → Calls Try.prog 18 #[.agg #[.int .u32 0, .int .u32 0, .int .i64 0, .int .i64 0, .int .i64 0, .int .i64 0, .int .i64 0, .int .i64 0, .slice A1 0 c1, .slice A2 0 c2, .slice A3 0 c3, .int .i64 0, .int .i64 0], .agg #[.int .u32 0, .int .u32 0, .int .i64 0, .int .i64 0, .int .i64 0, .int .i64 0, .int .i64 0, .int .i64 0, .slice none 0 0, .slice none 0 0, .slice none 0 0, .int .i64 0, .int .i64 0]] W fun e w' => e = .returned (.bool true) ∧ Below W.heap.size W w') :=
        fun W h h' => refimsame Im.zero A1 A2 A3 none none none c1 c2 c3 0 0 0 W h h' ⟨Nat.zero_le _, Nat.zero_le _, Nat.zero_le _⟩
      have HR2z : Hid (W2.heap[w2.heap.size]? = some (.cells #[.int .u32 0, .int .u32 0, .int .i64 0, .int .i64 0, .int .i64 0, .int .i64 0, .int .i64 0, .int .i64 0, .slice A1 0 c1, .slice A2 0 c2, .slice A3 0 c3, .int .i64 0, .int .i64 0] 28 (0, 0))) := HR2.out
      clear HR2
      have be : (er == 0) = false := by simpa using her
      have be2 : (er != 0) = true := by simpa using her
      go_wp2_with (refine wpList_load_row rfl 28 (.tmp 3) rfl w2.heap.size rfl _ _ _ _ HR2z.out Try.underlying28 rfl infoImS ?_)
      refine (HS.out _ HM2.out.at_ (imAt_nil _ _ rfl rfl rfl)).mono ?_
      rintro e w3 ⟨rfl, hb3⟩
      have HB13 := Lib.hid (HB12.out.trans (hb3.mono HB12.out.size))
      clear hb3
      go_wp2_with fail
      refine (imknown _).mono ?_
      rintro e w5 ⟨rfl, hb5⟩
      have HB15 := Lib.hid (HB13.out.trans (hb5.mono HB13.out.size))
      clear hb5
      go_wp2_with fail
      go_ret
      exact ⟨rfl, HB15.out⟩
end Go.Proofs.Ytjhopgmionpkoaa
