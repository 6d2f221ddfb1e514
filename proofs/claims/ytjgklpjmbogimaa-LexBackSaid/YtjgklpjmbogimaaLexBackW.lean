/-
  The walk of the law LexBack: what is written of a text's tokens has the same tokens.
-/
import Derived.Test.YtjgklpjmbogimaaLexK
namespace Go.Proofs.Ytjgklpjmbogimaa
open Go.RowKit
attribute [local go_sem] ex_take ex_drop ba_get

set_option maxRecDepth 100000 in
set_option maxHeartbeats 4000000 in
theorem lexBack_walk (w : World) (l : List UInt8) (hl : l.length ≤ maxLen) :
    Calls Try.prog 7 #[.string ⟨l.toArray⟩] w fun e w' => e = .returned (.bool true) ∧ Below w.heap.size w w' := by
  have HL := Lib.hid hl
  clear hl
  by_cases hbig : 2000 < l.length
  · go_enter Try.func7, Try.ntmps7
    go_wp2_with fail
    refine (known_any _).mono ?_
    rintro e w1 ⟨rfl, hb1⟩
    go_wp2_with fail
    go_ret
    exact ⟨rfl, hb1⟩
  · have HBK := Lib.hid (Lx.scan_back l)
    have hsz := scan_size l
    by_cases he : (Lx.scan l).2.1 = 0
    · have HE := Lib.hid he
      clear he
      generalize hts : (Lx.scan l).1 = ts at *
      have HTS := Lib.hid hts
      clear hts
      go_enter Try.func7, Try.ntmps7
      go_wp2_with fail
      refine (lexscan l HL.out _).mono ?_
      rintro e w1 ⟨v, rfl, hown, hb1⟩
      rw [HE.out, HTS.out] at *
      obtain ⟨A, c, rfl⟩ := own_slice hown
      have HT := Lib.hid (TokAt.of_own hown)
      have HB1 := Lib.hid hb1
      clear hown hb1
      go_wp2_with fail
      refine (lextext ts A c _ HT.out (by omega) (by omega)).mono ?_
      rintro e w2 ⟨rfl, hb2⟩
      have HB2 := Lib.hid (HB1.out.trans (hb2.mono HB1.out.size))
      have HT2 := Lib.hid (HT.out.below hb2 (.inl (Nat.le_refl _)))
      clear hb2 HT
      have hlx : (Lx.text ts).length ≤ maxLen := by unfold maxLen; omega
      have HLX := Lib.hid hlx
      clear hlx
      have hsz2 := scan_size (Lx.text ts)
      go_wp2_with fail
      refine (lexscan (Lx.text ts) HLX.out _).mono ?_
      rintro e w3 ⟨v3, rfl, hown, hb3⟩
      have HB3 := Lib.hid (HB2.out.trans (hb3.mono HB2.out.size))
      have HT3 := Lib.hid (HT2.out.below hb3 (.inl (Nat.le_refl _)))
      clear hb3 HT2
      obtain ⟨A', c', rfl⟩ := own_slice hown
      have HU := Lib.hid (TokAt.of_own hown)
      clear hown
      by_cases hlong : 4096 < (Lx.text ts).length
      · exfalso; omega
      · obtain ⟨g1, g2, g3⟩ := HBK.out.1 (by omega)
        rw [g1] at *
        have G2 := Lib.hid g2
        have G3 := Lib.hid g3
        clear g1 g2 g3
        generalize (Lx.scan (Lx.text ts)).1 = us at *
        go_wp2_with fail
        refine (refsame ts us A A' c c' _ HT3.out HU.out (by omega) G2.out.symm).mono ?_
        rintro e w' ⟨rfl, n, rfl⟩
        go_wp2_with fail
        refine (lextext us A' c' _ (TokAt.below HU.out (below_drewN (Below.refl w3.heap.size w3) n) (.inl (Nat.le_refl _))) (by omega) (by rw [G3.out]; omega)).mono ?_
        rintro e w4 ⟨rfl, hb4⟩
        rw [G3.out]
        have HB4 := Lib.hid ((below_drewN HB3.out n).trans (hb4.mono HB3.out.size))
        clear hb4
        go_wp2_with fail
        refine (known_any _).mono ?_
        rintro e w5 ⟨rfl, hb5⟩
        go_wp2_with fail
        go_ret
        exact ⟨rfl, HB4.out.trans (hb5.mono HB4.out.size)⟩
    · have hnil := Lx.scan_bad_nil l he
      have heb : ((Lx.scan l).2.1 != 0) = true := by rw [bne_iff_ne]; exact he
      clear he
      generalize hee : (Lx.scan l).2.1 = ee at *
      have HEE := Lib.hid hee
      have HN := Lib.hid hnil
      clear hee hnil
      go_enter Try.func7, Try.ntmps7
      go_wp2_with fail
      refine (lexscan l HL.out _).mono ?_
      rintro e w1 ⟨v, rfl, hown, hb1⟩
      rw [HEE.out, HN.out] at *
      obtain ⟨A, c, rfl⟩ := own_slice hown
      clear hown
      go_wp2_with fail
      refine (known_any _).mono ?_
      rintro e w2 ⟨rfl, hb2⟩
      go_wp2_with fail
      go_ret
      exact ⟨rfl, hb1.trans (hb2.mono hb1.size)⟩
end Go.Proofs.Ytjgklpjmbogimaa
