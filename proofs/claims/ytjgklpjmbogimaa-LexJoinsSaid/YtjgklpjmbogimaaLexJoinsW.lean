/-
  The walk of the law LexJoins: the tokens of two texts with a line's end between are those of both.
-/
import Derived.Test.YtjgklpjmbogimaaLexK
import Derived.Test.YtjgklpjmbogimaaMem
namespace Go.Proofs.Ytjgklpjmbogimaa
open Go.RowKit
attribute [local go_sem] ex_take ex_drop ba_get ba_append

theorem ba_nl (a : List UInt8) : (ByteArray.mk a.toArray) ++ (ByteArray.mk #[10]) = ByteArray.mk (a ++ [10]).toArray := ba_append a [10]
attribute [local go_sem] ba_nl
theorem toks_one : ∀ (ts : List Lx.Tok), ∀ u ∈ toksCells ts, u.oneCell' = true := by
  intro ts u hu
  unfold toksCells at hu
  obtain ⟨t, _, ht⟩ := List.mem_flatMap.1 hu
  exact tok_one t u ht
theorem toksCells_append (a b : List Lx.Tok) : toksCells (a ++ b) = toksCells a ++ toksCells b := by simp [toksCells]
set_option maxRecDepth 100000 in
set_option maxHeartbeats 8000000 in
theorem lexJoins_walk (w : World) (l : List UInt8) (hl : l.length ≤ maxLen) (m : List UInt8) (hm : m.length ≤ maxLen) :
    Calls Try.prog 5 #[.string ⟨l.toArray⟩, .string ⟨m.toArray⟩] w fun e w' => e = .returned (.bool true) ∧ Below w.heap.size w w' := by
  have HL := Lib.hid hl
  have HM := Lib.hid hm
  unfold maxLen at hl hm
  by_cases hbig : 2000 < l.length
  · go_enter Try.func5, Try.ntmps5
    go_wp2_with fail
    refine (known_any _).mono ?_
    rintro e w1 ⟨rfl, hb1⟩
    go_wp2_with fail
    go_ret
    exact ⟨rfl, hb1⟩
  by_cases hbig2 : 2000 < m.length
  · go_enter Try.func5, Try.ntmps5
    go_wp2_with fail
    refine (known_any _).mono ?_
    rintro e w1 ⟨rfl, hb1⟩
    go_wp2_with fail
    go_ret
    exact ⟨rfl, hb1⟩
  have HJ := Lib.hid (Lx.scan_join l m (by omega) (by omega))
  have hs1 := scan_size l
  have hs2 := scan_size m
  have hln : (l ++ 10 :: m).length ≤ maxLen := by unfold maxLen; simp; omega
  have HLN := Lib.hid hln
  clear hln
  have hs3 := scan_size (l ++ 10 :: m)
  have hl3 : (l ++ 10 :: m).length = l.length + 1 + m.length := by simp; omega
  rw [hl3] at hs3
  clear hl3
  by_cases he : (Lx.scan l).2.1 = 0
  · have HE := Lib.hid he
    clear he
    by_cases hf : (Lx.scan m).2.1 = 0
    · have HF := Lib.hid hf
      clear hf
      have hj := HJ.out.2.2 HE.out HF.out
      have HG := Lib.hid hj.1
      have HX := Lib.hid hj.2
      clear hj
      generalize hts : (Lx.scan l).1 = ts at *
      generalize hus : (Lx.scan m).1 = us at *
      generalize hvs : (Lx.scan (l ++ 10 :: m)).1 = vs at *
      have HTS := Lib.hid hts
      have HUS := Lib.hid hus
      have HVS := Lib.hid hvs
      clear hts hus hvs
      obtain ⟨i0, hi, hz0, hz1, hz2⟩ := info_parts infoTok
      have HI := Lib.hid (And.intro hi (And.intro hz0 (And.intro hz1 hz2)))
      clear hi hz0 hz1 hz2
      go_enter Try.func5, Try.ntmps5
      go_wp2_with fail
      refine (lexscan l HL.out _).mono ?_
      rintro e w1 ⟨v1, rfl, hown, hb1⟩
      rw [HE.out, HTS.out] at *
      obtain ⟨A1, c1, rfl⟩ := own_slice hown
      have HO1 := Lib.hid hown
      have HB1 := Lib.hid hb1
      clear hown hb1
      go_wp2_with fail
      refine (lexscan m HM.out _).mono ?_
      rintro e w2 ⟨v2, rfl, hown, hb2⟩
      rw [HF.out, HUS.out] at *
      obtain ⟨A2, c2, rfl⟩ := own_slice hown
      have HO2 := Lib.hid hown
      have HP1 := Lib.hid (own_below HO1.out hb2)
      have HB2 := Lib.hid (HB1.out.trans (hb2.mono HB1.out.size))
      clear hown hb2
      go_wp2_with fail
      refine (lexscan (l ++ 10 :: m) HLN.out _).mono ?_
      rintro e w3 ⟨v3, rfl, hown, hb3⟩
      rw [HG.out, HVS.out] at *
      obtain ⟨A3, c3, rfl⟩ := own_slice hown
      have HO3 := Lib.hid hown
      have HQ1 := Lib.hid (own_below HP1.out hb3)
      have HQ2 := Lib.hid (own_below HO2.out hb3)
      have HB3 := Lib.hid (HB2.out.trans (hb3.mono HB2.out.size))
      clear hown hb3
      obtain ⟨hi, hz0, hz1, hz2⟩ := HI.out
      have hS1 := Lib.hid (Mem.Src.of_own HQ1.out)
      have hS2 := Lib.hid (Mem.Src.of_own HQ2.out)
      go_wp2_with (first | (at_builtin; refine Mem.wpList_app_any rfl (.tmp 88) (.tmp 89) 24 rfl w3.heap.size 29 i0 (.agg #[.int .i64 0, .string ⟨#[]⟩, .int .i32 0, .int .i64 0]) 4 40 Try.underlying24 hi hz0 hz1 hz2 rfl (by decide) _ 0 [] rfl (World.ownsRow_made w3 #[] 0 (Nat.le_refl _) (by decide) rfl) A1 ts.length c1 (toksCells ts) rfl (hS1.out.below ((Below.refl w3.heap.size w3).alloc (Nat.le_refl _) _) (Nat.le_refl _)) (toks_one _) ?c3 ?c4 ?c5 ?_) | fail)
      case c3 => unfold maxLen; omega
      case c4 => omega
      case c5 => simp
      intro v4 w4 hown4 hg4
      have HO4 := Lib.hid hown4
      have hb4 : Below w3.heap.size w3 w4 := ((Below.refl w3.heap.size w3).alloc (Nat.le_refl _) _).grown hg4 (by simp) (fun k hk => by simp [Value.ownBlock] at hk; omega)
      have HB4 := Lib.hid hb4
      clear hown4 hg4 hb4
      go_wp2_with (first | (at_builtin; refine Mem.wpList_app_any rfl (.tmp 90) (.tmp 91) 24 rfl w3.heap.size 29 i0 (.agg #[.int .i64 0, .string ⟨#[]⟩, .int .i32 0, .int .i64 0]) 4 40 Try.underlying24 hi hz0 hz1 hz2 rfl (by decide) _ ts.length (toksCells ts) rfl HO4.out A2 us.length c2 (toksCells us) rfl (hS2.out.below HB4.out (Nat.le_refl _)) (toks_one _) ?d3 ?d4 ?d5 ?_) | fail)
      case d3 => unfold maxLen; omega
      case d4 => omega
      case d5 => exact HB4.out.size
      intro v5 w5 hown5 hg5
      obtain ⟨A5, c5, rfl⟩ := own_slice hown5
      have hown6 : w5.ownsRow w3.heap.size 29 4 (.slice A5 (ts ++ us).length c5) (ts ++ us).length (toksCells (ts ++ us)) := by
        rw [toksCells_append, List.length_append]; exact hown5
      have hb5 : Below w3.heap.size w3 w5 := HB4.out.grown hg5 HB4.out.size (fun k hk => (HO4.out.lt k hk).1)
      have HB5 := Lib.hid hb5
      have HT5 := Lib.hid (TokAt.of_own hown6)
      have HT3 := Lib.hid ((TokAt.of_own HO3.out).below hb5 (.inl (Nat.le_refl _)))
      have hlen : (ts ++ us).length = ts.length + us.length := List.length_append
      have HLEN := Lib.hid hlen
      clear hown5 hown6 hg5 hb5 hlen
      go_wp2_with fail
      have hsame := refsame vs (ts ++ us) A3 A5 c3 c5 w5 HT3.out HT5.out (by omega) HX.out
      rw [HLEN.out] at hsame
      refine hsame.mono ?_
      rintro e w6 ⟨rfl, n, rfl⟩
      clear hsame
      go_wp2_with fail
      refine (known_any _).mono ?_
      rintro e w7 ⟨rfl, hb7⟩
      go_wp2_with fail
      go_ret
      have hb : Below w.heap.size w w5 := HB3.out.trans (HB5.out.mono HB3.out.size)
      exact ⟨rfl, (below_drewN hb n).trans (hb7.mono hb.size)⟩
    · have HF := Lib.hid hf
      have hfb : ((Lx.scan m).2.1 != 0) = true := by rw [bne_iff_ne]; exact hf
      have hj := HJ.out.2.1 HE.out hf
      clear hf
      obtain ⟨j1, j2, j3⟩ := hj
      have hpl := Lx.scan_places m (by omega)
      have hpp := hpl.2 HF.out
      clear hpl
      generalize hff : (Lx.scan m).2.1 = ff at *
      have HFF := Lib.hid hff
      clear hff
      generalize hp : (Lx.scan m).2.2 = pp at *
      have HP := Lib.hid hp
      have J1 := Lib.hid j1
      have J2 := Lib.hid j2
      have J3 := Lib.hid j3
      clear hp j1 j2 j3
      go_enter Try.func5, Try.ntmps5
      go_wp2_with fail
      refine (lexscan l HL.out _).mono ?_
      rintro e w1 ⟨v1, rfl, hown, hb1⟩
      clear hown
      rw [HE.out]
      go_wp2_with fail
      refine (lexscan m HM.out _).mono ?_
      rintro e w2 ⟨v2, rfl, hown, hb2⟩
      clear hown
      rw [HFF.out, HP.out]
      have HB2 := Lib.hid (hb1.trans (hb2.mono hb1.size))
      clear hb1 hb2
      go_wp2_with fail
      refine (lexscan (l ++ 10 :: m) HLN.out _).mono ?_
      rintro e w3 ⟨v3, rfl, hown, hb3⟩
      rw [J1.out] at hown
      obtain ⟨A3, c3, rfl⟩ := own_slice hown
      have HB3 := Lib.hid (HB2.out.trans (hb3.mono HB2.out.size))
      clear hown hb3
      rw [J2.out, J3.out]
      go_wp2_with fail
      refine (known_any _).mono ?_
      rintro e w4 ⟨rfl, hb4⟩
      go_wp2_with fail
      go_ret
      exact ⟨rfl, HB3.out.trans (hb4.mono HB3.out.size)⟩
  · have HE := Lib.hid he
    have heb : ((Lx.scan l).2.1 != 0) = true := by rw [bne_iff_ne]; exact he
    have hj := HJ.out.1 he
    clear he
    obtain ⟨j1, j2, j3⟩ := hj
    generalize hee : (Lx.scan l).2.1 = ee at *
    have HEE := Lib.hid hee
    clear hee
    generalize hp : (Lx.scan l).2.2 = pp at *
    have HP := Lib.hid hp
    have J1 := Lib.hid j1
    have J2 := Lib.hid j2
    have J3 := Lib.hid j3
    clear hp j1 j2 j3
    go_enter Try.func5, Try.ntmps5
    go_wp2_with fail
    refine (lexscan l HL.out _).mono ?_
    rintro e w1 ⟨v1, rfl, hown, hb1⟩
    clear hown
    rw [HEE.out, HP.out]
    go_wp2_with fail
    refine (lexscan m HM.out _).mono ?_
    rintro e w2 ⟨v2, rfl, hown, hb2⟩
    clear hown
    have HB2 := Lib.hid (hb1.trans (hb2.mono hb1.size))
    clear hb1 hb2
    go_wp2_with fail
    refine (lexscan (l ++ 10 :: m) HLN.out _).mono ?_
    rintro e w3 ⟨v3, rfl, hown, hb3⟩
    rw [J1.out] at hown
    obtain ⟨A3, c3, rfl⟩ := own_slice hown
    have HB3 := Lib.hid (HB2.out.trans (hb3.mono HB2.out.size))
    clear hown hb3
    rw [J2.out, J3.out]
    go_wp2_with fail
    refine (known_any _).mono ?_
    rintro e w4 ⟨rfl, hb4⟩
    go_wp2_with fail
    go_ret
    exact ⟨rfl, HB3.out.trans (hb4.mono HB3.out.size)⟩
end Go.Proofs.Ytjgklpjmbogimaa
