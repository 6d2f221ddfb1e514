/-
  The walk of the law LexPlaces: each token at its place, blanks and remarks between.
-/
import Derived.Test.YtjgklpjmbogimaaLexK
import Derived.Laws.DeepStrings4
namespace Go.Proofs.Ytjgklpjmbogimaa
open Go.RowKit
attribute [local go_sem] ex_take ex_drop ba_get

/-- one step of the gap automaton, as the law's loop takes it -/
theorem gap_step (r : Bool) (c : UInt8) (l : List UInt8) (h : Lx.gap r (c :: l) = true) :
    (c = 10 ∧ Lx.gap false l = true) ∨ (c ≠ 10 ∧ r = true ∧ Lx.gap true l = true) ∨
    (c ≠ 10 ∧ r = false ∧ c = 45 ∧ l.head? = some 45 ∧ Lx.gap true l = true) ∨
    (c ≠ 10 ∧ r = false ∧ (c = 45 → l.head? ≠ some 45) ∧ (c = 32 ∨ c = 9 ∨ c = 13) ∧ Lx.gap false l = true) := by
  simp only [Lx.gap, Bool.and_eq_true] at h
  by_cases h10 : c = 10
  · subst h10
    refine .inl ⟨rfl, ?_⟩
    have e : (((10 : UInt8) == 45) && l.head? == some 45) = false := by rfl
    rw [e] at h
    exact h.2
  · rw [if_neg h10] at h
    rcases hr : r with _ | _
    · subst hr
      by_cases hd : c = 45 ∧ l.head? = some 45
      · obtain ⟨rfl, hh⟩ := hd
        refine .inr (.inr (.inl ⟨h10, rfl, rfl, hh, ?_⟩))
        rw [hh] at h
        exact h.2
      · have e : (c == 45 && l.head? == some 45) = false := by
          rcases hq : (c == 45 && l.head? == some 45) with _ | _
          · rfl
          · rw [Bool.and_eq_true, beq_iff_eq, beq_iff_eq] at hq
            exact absurd hq hd
        rw [e] at h
        refine .inr (.inr (.inr ⟨h10, rfl, fun h1 h2 => hd ⟨h1, h2⟩, ?_, h.2⟩))
        have hb := h.1
        simp only [Bool.or_false, Bool.false_or, Lx.blank, Bool.or_eq_true, beq_iff_eq] at hb
        have hc : ∀ k : Nat, (c.toNat : Int) = (k : Int) → k < 256 → c = UInt8.ofNat k := fun k hk _ => by
          have : c.toNat = k := by omega
          rw [← this]; simp
        have h10' : ¬ (c.toNat : Int) = 10 := fun e => h10 (hc 10 e (by omega))
        rcases hb with ((hb | hb) | hb) | hb
        · first | exact .inl (hc 32 hb (by omega)) | exact .inr (.inl (hc 9 hb (by omega))) | exact .inr (.inr (hc 13 hb (by omega))) | exact absurd hb h10'
        · first | exact .inl (hc 32 hb (by omega)) | exact .inr (.inl (hc 9 hb (by omega))) | exact .inr (.inr (hc 13 hb (by omega))) | exact absurd hb h10'
        · first | exact .inl (hc 32 hb (by omega)) | exact .inr (.inl (hc 9 hb (by omega))) | exact .inr (.inr (hc 13 hb (by omega))) | exact absurd hb h10'
        · first | exact .inl (hc 32 hb (by omega)) | exact .inr (.inl (hc 9 hb (by omega))) | exact .inr (.inr (hc 13 hb (by omega))) | exact absurd hb h10'
    · subst hr
      refine .inr (.inl ⟨h10, rfl, ?_⟩)
      simpa using h.2

set_option maxRecDepth 100000 in
set_option maxHeartbeats 4000000 in
theorem take_drop_cons (l : List UInt8) (j q : Nat) (h : j < q) (hl : j < l.length) : (l.drop j).take (q - j) = l[j] :: (l.drop (j + 1)).take (q - (j + 1)) := by
  rw [List.drop_eq_getElem_cons hl, show q - j = (q - (j + 1)) + 1 by omega, List.take_succ_cons]
theorem head_rest (l : List UInt8) (j q : Nat) : ((l.drop (j + 1)).take (q - (j + 1))).head? = if j + 1 < q then l[j + 1]? else none := by
  split
  · rename_i h
    rw [List.head?_take, if_neg (by omega), List.head?_drop]
  · rename_i h
    rw [show q - (j + 1) = 0 by omega]
    rfl
theorem ne_byte {c d : UInt8} (h : ¬ c = d) (k : Nat) (_ : k < 256) (hd : d = UInt8.ofNat k) : ((c.toNat : Int) == (k : Int)) = false := by
  rw [beq_eq_false_iff_ne]
  intro e
  have : c.toNat = k := by omega
  exact h (by rw [hd, ← this]; simp)
def InGap (l : List UInt8) (q j : Nat) (v : Value) : Prop := ∃ r, v = .bool r ∧ Lx.gap r ((l.drop j).take (q - j)) = true
theorem ex_mid (l : List UInt8) (q n : Nat) : (⟨l.toArray⟩ : ByteArray).extract q (q + n) = ⟨((l.drop q).take n).toArray⟩ := by
  apply ByteArray.ext
  apply Array.ext'
  simp [ByteArray.data_extract]
theorem sl_mid (l : List UInt8) (q n : Nat) (h : q + n ≤ l.length) (wx : World) :
    (Instr.slice 9 (.string ⟨l.toArray⟩) (some (.int .i64 (q : Int))) (some (.int .i64 ((q : Int) + n))) none).run Try.prog wx = .ok (.string ⟨((l.drop q).take n).toArray⟩) wx := by
  rw [run_slice_string_if _ _ _ _ _ _ _ Try.underlying9]
  have hs : ((⟨l.toArray⟩ : ByteArray).size) = l.length := by simp [ByteArray.size]
  rw [hs, if_pos (by omega), if_pos (by omega)]
  have e1 : ((q : Int) + n).toNat = q + n := by omega
  have e2 : (q : Int).toNat = q := by omega
  rw [e1, e2, ex_mid]
set_option maxRecDepth 100000 in
set_option maxHeartbeats 4000000 in
theorem lexPlaces_walk (w : World) (l : List UInt8) (hl : l.length ≤ maxLen) :
    Calls Try.prog 4 #[.string ⟨l.toArray⟩] w fun e w' => e = .returned (.bool true) ∧ Below w.heap.size w w' := by
  have HL := Lib.hid hl
  clear hl
  by_cases hbig : 4096 < l.length
  · go_enter Try.func4, Try.ntmps4
    go_wp2_with fail
    refine (known_any _).mono ?_
    rintro e w1 ⟨rfl, hb1⟩
    go_wp2_with fail
    go_ret
    exact ⟨rfl, hb1⟩
  · have HPL := Lib.hid (Lx.scan_places l (by omega))
    have hsz := scan_size l
    by_cases he : (Lx.scan l).2.1 = 0
    · have HE := Lib.hid he
      have HP := Lib.hid (HPL.out.1 he)
      clear he HPL
      generalize hts : (Lx.scan l).1 = ts at *
      have HTS := Lib.hid hts
      clear hts
      go_enter Try.func4, Try.ntmps4
      go_wp2_with fail
      refine (lexscan l HL.out _).mono ?_
      rintro e w1 ⟨v, rfl, hown, hb1⟩
      rw [HE.out, HTS.out] at *
      obtain ⟨A, c, rfl⟩ := own_slice hown
      have HT := Lib.hid (TokAt.of_own hown)
      have HB1 := Lib.hid hb1
      clear hown hb1
      go_wp2_with fail
      go_loopw [6, 7] (fun e i wr => ∃ (k p n : Nat), e = .int .i64 p ∧ i = .int .i64 k ∧ wr = w1.drewN n ∧ p ≤ l.length ∧ Hid ((k ≤ ts.length ∧ Lx.Places l p (ts.drop k)) ∨ k = ts.length + 1)) (fun _ i _ => ts.length + 1 - (intOf i).toNat)
      case atStart => exact ⟨0, 0, 0, rfl, rfl, rfl, Nat.zero_le _, Lib.hid (.inl ⟨Nat.zero_le _, HP.out⟩)⟩
      case round =>
        obtain ⟨k, p, m, rfl, rfl, rfl, hpl, hst⟩ := hrel
        by_cases hlt : k < ts.length
        · have hPl : Lx.Places l p (ts.drop k) := by
            rcases hst.out with h | h
            · exact h.2
            · omega
          rw [List.drop_eq_getElem_cons hlt] at hPl
          obtain ⟨b, off, rfl, c0, c1, c2, c3⟩ := HT.out k hlt
          generalize (ts[k]'hlt) = t at *
          obtain ⟨q, hq, hpq, hpos, hqn, htx, hgap, hrest⟩ := hPl
          rw [hq] at c3
          generalize hn : t.text.length = n at *
          rw [htx] at c1
          have HGAP := Lib.hid hgap
          have HREST := Lib.hid hrest
          clear hq htx hn hgap hrest hst
          have z1 : ((n : Int) == 0) = false := by rw [beq_eq_false_iff_ne]; omega
          have z2 : decide (q < p) = false := decide_eq_false (by omega)
          have zw : IntKind.i64.wrap ((l.length : Int) - n) = (l.length : Int) - n := by rw [IntKind.wrap_i64]; omega
          have zw2 : IntKind.i64.wrap ((q : Int) + n) = (q : Int) + n := by rw [IntKind.wrap_i64]; omega
          have z3 : decide ((l.length : Int) - n < q) = false := decide_eq_false (by omega)
          have hlen : ((l.drop q).take n).length = n := by rw [List.length_take, List.length_drop]; omega
          have hsl := sl_mid l q n hqn
          go_wp2_with fail
          go_quiet (fail)
          rw [World.drewN_drewN]
          go_wp2_with fail
          have HG0 := Lib.hid (show Lx.gap false ((l.drop p).take (q - p)) = true from HGAP.out)
          go_loop [10, 11] (fun rem i => ∃ (j : Nat), p ≤ j ∧ j ≤ q ∧ i = .int .i64 j ∧ InGap l q j rem) (fun _ i => q - (intOf i).toNat)
          case atStart => exact ⟨p, Nat.le_refl _, hpq, rfl, false, rfl, HG0.out⟩
          case round =>
            obtain ⟨j, hpj, hjq, rfl, r, rfl, hg⟩ := hrel
            by_cases hjlt : j < q
            · have hjl : j < l.length := by omega
              rw [take_drop_cons l j q hjlt hjl] at hg
              have hcases := gap_step _ _ _ hg
              rw [head_rest] at hcases
              clear hg
              by_cases hnx : j + 1 < q
              · have hjl1 : j + 1 < l.length := by omega
                rw [if_pos hnx, List.getElem?_eq_getElem hjl1] at hcases
                obtain ⟨hc, hr⟩ | ⟨hc, rfl, hr⟩ | ⟨hc, rfl, hc2, hh, hr⟩ | ⟨hc, rfl, hnd, hb, hr⟩ := hcases
                · have HR := Lib.hid hr
                  clear hr
                  go_wp2_with fail
                  first
                    | (go_round
                       case rel => exact ⟨j + 1, by omega, by omega, by go_num, false, rfl, HR.out⟩
                       case measure => simp [intOf]; omega)
                    | (refine ⟨⟨_, _, _, ⟨j + 1, by omega, by omega, ?_, false, rfl, HR.out⟩, rfl, rfl, rfl⟩, ?_⟩
                       · go_num
                       · simp [intOf]; omega)
                · have HR := Lib.hid hr
                  clear hr
                  have n10 : ((l[j].toNat : Int) == 10) = false := ne_byte hc 10 (by omega) rfl
                  clear hc
                  go_wp2_with fail
                  first
                    | (go_round
                       case rel => exact ⟨j + 1, by omega, by omega, by go_num, true, rfl, HR.out⟩
                       case measure => simp [intOf]; omega)
                    | (refine ⟨⟨_, _, _, ⟨j + 1, by omega, by omega, ?_, true, rfl, HR.out⟩, rfl, rfl, rfl⟩, ?_⟩
                       · go_num
                       · simp [intOf]; omega)
                · have HR := Lib.hid hr
                  clear hr
                  have hh2 : l[j + 1] = 45 := by simpa using hh
                  clear hh hc
                  go_wp2_with fail
                  first
                    | (go_round
                       case rel => exact ⟨j + 1, by omega, by omega, by go_num, true, rfl, HR.out⟩
                       case measure => simp [intOf]; omega)
                    | (refine ⟨⟨_, _, _, ⟨j + 1, by omega, by omega, ?_, true, rfl, HR.out⟩, rfl, rfl, rfl⟩, ?_⟩
                       · go_num
                       · simp [intOf]; omega)
                · have hnd2 : (l[j] == 45 && l[j + 1] == 45) = false := by
                    rcases hq : (l[j] == 45 && l[j + 1] == 45) with _ | _
                    · rfl
                    · rw [Bool.and_eq_true, beq_iff_eq, beq_iff_eq] at hq
                      exact absurd (by rw [hq.2]) (hnd hq.1)
                  clear hnd
                  have HR := Lib.hid hr
                  clear hr
                  by_cases h45 : l[j] = 45
                  · exfalso
                    rcases hb with hb | hb | hb <;> (rw [h45] at hb; exact absurd hb (by decide))
                  · have n45 : ((l[j].toNat : Int) == 45) = false := ne_byte h45 45 (by omega) rfl
                    clear h45 hnd2 hc
                    rcases hb with hb | hb | hb
                    · go_wp2_with fail
                      first
                        | (go_round
                           case rel => exact ⟨j + 1, by omega, by omega, by go_num, false, rfl, HR.out⟩
                           case measure => simp [intOf]; omega)
                        | (refine ⟨⟨_, _, _, ⟨j + 1, by omega, by omega, ?_, false, rfl, HR.out⟩, rfl, rfl, rfl⟩, ?_⟩
                           · go_num
                           · simp [intOf]; omega)
                    · go_wp2_with fail
                      first
                        | (go_round
                           case rel => exact ⟨j + 1, by omega, by omega, by go_num, false, rfl, HR.out⟩
                           case measure => simp [intOf]; omega)
                        | (refine ⟨⟨_, _, _, ⟨j + 1, by omega, by omega, ?_, false, rfl, HR.out⟩, rfl, rfl, rfl⟩, ?_⟩
                           · go_num
                           · simp [intOf]; omega)
                    · go_wp2_with fail
                      first
                        | (go_round
                           case rel => exact ⟨j + 1, by omega, by omega, by go_num, false, rfl, HR.out⟩
                           case measure => simp [intOf]; omega)
                        | (refine ⟨⟨_, _, _, ⟨j + 1, by omega, by omega, ?_, false, rfl, HR.out⟩, rfl, rfl, rfl⟩, ?_⟩
                           · go_num
                           · simp [intOf]; omega)
              · rw [if_neg hnx] at hcases
                obtain ⟨hc, hr⟩ | ⟨hc, rfl, hr⟩ | ⟨hc, rfl, hc2, hh, hr⟩ | ⟨hc, rfl, hnd, hb, hr⟩ := hcases
                · have HR := Lib.hid hr
                  clear hr
                  go_wp2_with fail
                  first
                    | (go_round
                       case rel => exact ⟨j + 1, by omega, by omega, by go_num, false, rfl, HR.out⟩
                       case measure => simp [intOf]; omega)
                    | (refine ⟨⟨_, _, _, ⟨j + 1, by omega, by omega, ?_, false, rfl, HR.out⟩, rfl, rfl, rfl⟩, ?_⟩
                       · go_num
                       · simp [intOf]; omega)
                · have HR := Lib.hid hr
                  clear hr
                  have n10 : ((l[j].toNat : Int) == 10) = false := ne_byte hc 10 (by omega) rfl
                  clear hc
                  go_wp2_with fail
                  first
                    | (go_round
                       case rel => exact ⟨j + 1, by omega, by omega, by go_num, true, rfl, HR.out⟩
                       case measure => simp [intOf]; omega)
                    | (refine ⟨⟨_, _, _, ⟨j + 1, by omega, by omega, ?_, true, rfl, HR.out⟩, rfl, rfl, rfl⟩, ?_⟩
                       · go_num
                       · simp [intOf]; omega)
                · exact absurd hh (by simp)
                · have HR := Lib.hid hr
                  clear hr hnd hc
                  rcases hb with hb | hb | hb
                  · go_wp2_with fail
                    first
                      | (go_round
                         case rel => exact ⟨j + 1, by omega, by omega, by go_num, false, rfl, HR.out⟩
                         case measure => simp [intOf]; omega)
                      | (refine ⟨⟨_, _, _, ⟨j + 1, by omega, by omega, ?_, false, rfl, HR.out⟩, rfl, rfl, rfl⟩, ?_⟩
                         · go_num
                         · simp [intOf]; omega)
                  · go_wp2_with fail
                    first
                      | (go_round
                         case rel => exact ⟨j + 1, by omega, by omega, by go_num, false, rfl, HR.out⟩
                         case measure => simp [intOf]; omega)
                      | (refine ⟨⟨_, _, _, ⟨j + 1, by omega, by omega, ?_, false, rfl, HR.out⟩, rfl, rfl, rfl⟩, ?_⟩
                         · go_num
                         · simp [intOf]; omega)
                  · go_wp2_with fail
                    first
                      | (go_round
                         case rel => exact ⟨j + 1, by omega, by omega, by go_num, false, rfl, HR.out⟩
                         case measure => simp [intOf]; omega)
                      | (refine ⟨⟨_, _, _, ⟨j + 1, by omega, by omega, ?_, false, rfl, HR.out⟩, rfl, rfl, rfl⟩, ?_⟩
                         · go_num
                         · simp [intOf]; omega)
            · obtain rfl : j = q := by omega
              go_wp2_with fail
              go_roundw
              case rel => exact ⟨k + 1, j + n, m + nq, by go_num, by go_num, rfl, hqn, Lib.hid (.inl ⟨hlt, HREST.out⟩)⟩
              case measure => simp [intOf]; omega
        · by_cases hke : k = ts.length
          · subst hke
            have hPl : Lx.Places l p (ts.drop ts.length) := by
              rcases hst.out with h | h
              · exact h.2
              · omega
            rw [List.drop_length] at hPl
            have hg1 : Lx.gap false ((l.drop p).take (l.length - p)) = true := by
              rw [List.take_of_length_le (by rw [List.length_drop]; omega)]
              exact hPl.2
            have HG0 := Lib.hid hg1
            clear hPl hg1 hst
            go_wp2_with fail
            go_loop [10, 11] (fun rem i => ∃ (j : Nat), p ≤ j ∧ j ≤ l.length ∧ i = .int .i64 j ∧ InGap l l.length j rem) (fun _ i => l.length - (intOf i).toNat)
            case atStart => exact ⟨p, Nat.le_refl _, hpl, rfl, false, rfl, HG0.out⟩
            case round =>
              obtain ⟨j, hpj, hjq, rfl, r, rfl, hg⟩ := hrel
              by_cases hjlt : j < l.length
              · have hjl : j < l.length := by omega
                rw [take_drop_cons l j l.length hjlt hjl] at hg
                have hcases := gap_step _ _ _ hg
                rw [head_rest] at hcases
                clear hg
                by_cases hnx : j + 1 < l.length
                · have hjl1 : j + 1 < l.length := by omega
                  rw [if_pos hnx, List.getElem?_eq_getElem hjl1] at hcases
                  obtain ⟨hc, hr⟩ | ⟨hc, rfl, hr⟩ | ⟨hc, rfl, hc2, hh, hr⟩ | ⟨hc, rfl, hnd, hb, hr⟩ := hcases
                  · have HR := Lib.hid hr
                    clear hr
                    go_wp2_with fail
                    first
                      | (go_round
                         case rel => exact ⟨j + 1, by omega, by omega, by go_num, false, rfl, HR.out⟩
                         case measure => simp [intOf]; omega)
                      | (refine ⟨⟨_, _, _, ⟨j + 1, by omega, by omega, ?_, false, rfl, HR.out⟩, rfl, rfl, rfl⟩, ?_⟩
                         · go_num
                         · simp [intOf]; omega)
                  · have HR := Lib.hid hr
                    clear hr
                    have n10 : ((l[j].toNat : Int) == 10) = false := ne_byte hc 10 (by omega) rfl
                    clear hc
                    go_wp2_with fail
                    first
                      | (go_round
                         case rel => exact ⟨j + 1, by omega, by omega, by go_num, true, rfl, HR.out⟩
                         case measure => simp [intOf]; omega)
                      | (refine ⟨⟨_, _, _, ⟨j + 1, by omega, by omega, ?_, true, rfl, HR.out⟩, rfl, rfl, rfl⟩, ?_⟩
                         · go_num
                         · simp [intOf]; omega)
                  · have HR := Lib.hid hr
                    clear hr
                    have hh2 : l[j + 1] = 45 := by simpa using hh
                    clear hh hc
                    go_wp2_with fail
                    first
                      | (go_round
                         case rel => exact ⟨j + 1, by omega, by omega, by go_num, true, rfl, HR.out⟩
                         case measure => simp [intOf]; omega)
                      | (refine ⟨⟨_, _, _, ⟨j + 1, by omega, by omega, ?_, true, rfl, HR.out⟩, rfl, rfl, rfl⟩, ?_⟩
                         · go_num
                         · simp [intOf]; omega)
                  · have hnd2 : (l[j] == 45 && l[j + 1] == 45) = false := by
                      rcases hq : (l[j] == 45 && l[j + 1] == 45) with _ | _
                      · rfl
                      · rw [Bool.and_eq_true, beq_iff_eq, beq_iff_eq] at hq
                        exact absurd (by rw [hq.2]) (hnd hq.1)
                    clear hnd
                    have HR := Lib.hid hr
                    clear hr
                    by_cases h45 : l[j] = 45
                    · exfalso
                      rcases hb with hb | hb | hb <;> (rw [h45] at hb; exact absurd hb (by decide))
                    · have n45 : ((l[j].toNat : Int) == 45) = false := ne_byte h45 45 (by omega) rfl
                      clear h45 hnd2 hc
                      rcases hb with hb | hb | hb
                      · go_wp2_with fail
                        first
                          | (go_round
                             case rel => exact ⟨j + 1, by omega, by omega, by go_num, false, rfl, HR.out⟩
                             case measure => simp [intOf]; omega)
                          | (refine ⟨⟨_, _, _, ⟨j + 1, by omega, by omega, ?_, false, rfl, HR.out⟩, rfl, rfl, rfl⟩, ?_⟩
                             · go_num
                             · simp [intOf]; omega)
                      · go_wp2_with fail
                        first
                          | (go_round
                             case rel => exact ⟨j + 1, by omega, by omega, by go_num, false, rfl, HR.out⟩
                             case measure => simp [intOf]; omega)
                          | (refine ⟨⟨_, _, _, ⟨j + 1, by omega, by omega, ?_, false, rfl, HR.out⟩, rfl, rfl, rfl⟩, ?_⟩
                             · go_num
                             · simp [intOf]; omega)
                      · go_wp2_with fail
                        first
                          | (go_round
                             case rel => exact ⟨j + 1, by omega, by omega, by go_num, false, rfl, HR.out⟩
                             case measure => simp [intOf]; omega)
                          | (refine ⟨⟨_, _, _, ⟨j + 1, by omega, by omega, ?_, false, rfl, HR.out⟩, rfl, rfl, rfl⟩, ?_⟩
                             · go_num
                             · simp [intOf]; omega)
                · rw [if_neg hnx] at hcases
                  obtain ⟨hc, hr⟩ | ⟨hc, rfl, hr⟩ | ⟨hc, rfl, hc2, hh, hr⟩ | ⟨hc, rfl, hnd, hb, hr⟩ := hcases
                  · have HR := Lib.hid hr
                    clear hr
                    go_wp2_with fail
                    first
                      | (go_round
                         case rel => exact ⟨j + 1, by omega, by omega, by go_num, false, rfl, HR.out⟩
                         case measure => simp [intOf]; omega)
                      | (refine ⟨⟨_, _, _, ⟨j + 1, by omega, by omega, ?_, false, rfl, HR.out⟩, rfl, rfl, rfl⟩, ?_⟩
                         · go_num
                         · simp [intOf]; omega)
                  · have HR := Lib.hid hr
                    clear hr
                    have n10 : ((l[j].toNat : Int) == 10) = false := ne_byte hc 10 (by omega) rfl
                    clear hc
                    go_wp2_with fail
                    first
                      | (go_round
                         case rel => exact ⟨j + 1, by omega, by omega, by go_num, true, rfl, HR.out⟩
                         case measure => simp [intOf]; omega)
                      | (refine ⟨⟨_, _, _, ⟨j + 1, by omega, by omega, ?_, true, rfl, HR.out⟩, rfl, rfl, rfl⟩, ?_⟩
                         · go_num
                         · simp [intOf]; omega)
                  · exact absurd hh (by simp)
                  · have HR := Lib.hid hr
                    clear hr hnd hc
                    rcases hb with hb | hb | hb
                    · go_wp2_with fail
                      first
                        | (go_round
                           case rel => exact ⟨j + 1, by omega, by omega, by go_num, false, rfl, HR.out⟩
                           case measure => simp [intOf]; omega)
                        | (refine ⟨⟨_, _, _, ⟨j + 1, by omega, by omega, ?_, false, rfl, HR.out⟩, rfl, rfl, rfl⟩, ?_⟩
                           · go_num
                           · simp [intOf]; omega)
                    · go_wp2_with fail
                      first
                        | (go_round
                           case rel => exact ⟨j + 1, by omega, by omega, by go_num, false, rfl, HR.out⟩
                           case measure => simp [intOf]; omega)
                        | (refine ⟨⟨_, _, _, ⟨j + 1, by omega, by omega, ?_, false, rfl, HR.out⟩, rfl, rfl, rfl⟩, ?_⟩
                           · go_num
                           · simp [intOf]; omega)
                    · go_wp2_with fail
                      first
                        | (go_round
                           case rel => exact ⟨j + 1, by omega, by omega, by go_num, false, rfl, HR.out⟩
                           case measure => simp [intOf]; omega)
                        | (refine ⟨⟨_, _, _, ⟨j + 1, by omega, by omega, ?_, false, rfl, HR.out⟩, rfl, rfl, rfl⟩, ?_⟩
                           · go_num
                           · simp [intOf]; omega)
              · obtain rfl : j = l.length := by omega
                go_wp2_with fail
                go_roundw
                case rel => exact ⟨ts.length + 1, p, m, rfl, by go_num, rfl, hpl, Lib.hid (.inr rfl)⟩
                case measure => simp [intOf]
          · obtain rfl : k = ts.length + 1 := by
              rcases hst.out with h | h
              · omega
              · exact h
            clear hst
            go_wp2_with fail
            refine (known_any _).mono ?_
            rintro e w2 ⟨rfl, hb2⟩
            go_wp2_with fail
            go_ret
            exact ⟨rfl, (below_drewN HB1.out m).trans (hb2.mono HB1.out.size)⟩
    · have hat := HPL.out.2 he
      have hnil := Lx.scan_bad_nil l he
      have heb : ((Lx.scan l).2.1 != 0) = true := by rw [bne_iff_ne]; exact he
      clear he HPL
      generalize hee : (Lx.scan l).2.1 = ee at *
      generalize haa : (Lx.scan l).2.2 = aa at *
      have HEE := Lib.hid hee
      have HAA := Lib.hid haa
      have HN := Lib.hid hnil
      clear hee hnil haa
      obtain ⟨ha0, ha1⟩ := hat
      go_enter Try.func4, Try.ntmps4
      go_wp2_with fail
      refine (lexscan l HL.out _).mono ?_
      rintro e w1 ⟨v, rfl, hown, hb1⟩
      rw [HEE.out, HN.out, HAA.out] at *
      obtain ⟨A, c, rfl⟩ := own_slice hown
      clear hown
      go_wp2_with fail
      refine (known_any _).mono ?_
      rintro e w2 ⟨rfl, hb2⟩
      go_wp2_with fail
      go_ret
      exact ⟨rfl, hb1.trans (hb2.mono hb1.size)⟩
end Go.Proofs.Ytjgklpjmbogimaa
