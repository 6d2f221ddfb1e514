/-
  The reference's lexer: blank, run, skip.
  The reference's lexer: skip.
  The reference's numbers out of texts: Low and Read, at texts of digits alone.
  The reference's Read, at texts of digits alone.
-/
import Derived.Test.YtilkilffkjhhbaaLex1
import Derived.Deep.LoopGhost
import Derived.Test.YtilkilffkjhhbaaTrL12
import Derived.Test.YtilkilffkjhhbaaTrE
namespace Go.Proofs.Ytilkilffkjhhbaa
set_option maxRecDepth 20000
set_option linter.unusedVariables false
open Go.RowKit
attribute [local go_sem] ex_take ex_drop ba_get

theorem refblank_any (c : Int) (w : World) :
    Calls Try.prog 100 #[.int .u8 c] w fun e w' => e = .returned (.bool (Lx.blank c)) ∧ w = w' := by
  by_cases h1 : c = 32
  · subst h1
    go_enter Try.func100, Try.ntmps100
    go_wp2
    go_ret
    exact ⟨rfl, rfl⟩
  · by_cases h2 : c = 9
    · subst h2
      go_enter Try.func100, Try.ntmps100
      go_wp2
      go_ret
      exact ⟨rfl, rfl⟩
    · by_cases h3 : c = 10
      · subst h3
        go_enter Try.func100, Try.ntmps100
        go_wp2
        go_ret
        exact ⟨rfl, rfl⟩
      · by_cases h4 : c = 13
        · subst h4
          go_enter Try.func100, Try.ntmps100
          go_wp2
          go_ret
          exact ⟨rfl, rfl⟩
        · have hb : Lx.blank c = false := by simp [Lx.blank, h1, h2, h3, h4]
          rw [hb]
          clear hb
          have g1 : (c == 32) = false := by simp [h1]
          have g2 : (c == 9) = false := by simp [h2]
          have g3 : (c == 10) = false := by simp [h3]
          have g4 : (c == 13) = false := by simp [h4]
          clear h1 h2 h3 h4
          go_enter Try.func100, Try.ntmps100
          go_wp2
          go_ret
          exact ⟨rfl, rfl⟩
/-- up to k each byte is of a kind -/
def PTo (p : Int → Bool) (l : List UInt8) (k : Nat) : Prop := ∀ j (hj : j < l.length), j < k → Lx.bp p (l[j]'hj) = true
theorem pTo_len {p : Int → Bool} {l : List UInt8} {k : Nat} (h : PTo p l k) (he : k = l.length ∨ ∃ hk : k < l.length, Lx.bp p (l[k]'hk) = false) : (Lx.hd p l).length = k := by
  unfold Lx.hd
  rw [takeWhile_at _ _ _ h he, List.length_take]
  rcases he with rfl | ⟨hk, _⟩ <;> omega
theorem pTo_succ {p : Int → Bool} {l : List UInt8} {k : Nat} (h : PTo p l k) (hk : k < l.length) (hi : Lx.bp p (l[k]'hk) = true) : PTo p l (k + 1) := fun j hj hlt => by
  rcases Nat.lt_or_ge j k with h1 | h1
  · exact h j hj h1
  · obtain rfl : j = k := by omega
    exact hi
theorem drop_at {l : List UInt8} {a i k : Nat} (hi : i = a + k) (h : i < l.length) : ∃ hk : k < (l.drop a).length, (l.drop a)[k]'hk = l[i]'h := by
  subst hi
  exact ⟨by rw [List.length_drop]; omega, by simp⟩
/-- how many bytes are of a kind, from a place on -/
theorem run_end {p : Int → Bool} {l : List UInt8} {a i k : Nat} (h : PTo p (l.drop a) k) (hi : i = a + k) (hlt : i < l.length) (hc : p ((l[i]'hlt).toNat : Int) = false) : (Lx.hd p (l.drop a)).length = k := by
  obtain ⟨hk, e⟩ := drop_at hi hlt
  exact pTo_len h (.inr ⟨hk, by rw [e]; exact hc⟩)
theorem run_step {p : Int → Bool} {l : List UInt8} {a i k : Nat} (h : PTo p (l.drop a) k) (hi : i = a + k) (hlt : i < l.length) (hc : p ((l[i]'hlt).toNat : Int) = true) : PTo p (l.drop a) (k + 1) := by
  obtain ⟨hk, e⟩ := drop_at hi hlt
  exact pTo_succ h hk (by rw [e]; exact hc)
set_option maxHeartbeats 4000000 in
theorem refrun0 (l : List UInt8) (a : Nat) (ha : a ≤ l.length) (hl : l.length ≤ maxLen) (w : World) :
    Calls Try.prog 102 #[.string ⟨l.toArray⟩, .int .i64 a, .int .i64 0] w fun e w' => e = .returned (.int .i64 (Lx.hd Lx.inner (l.drop a)).length) ∧ w = w' := by
  unfold maxLen at hl
  have HLD := Lib.hid (List.length_drop (i := a) (l := l))
  go_enter Try.func102, Try.ntmps102
  go_wp2
  go_loop [7] (fun i => ∃ k : Nat, a + k ≤ l.length ∧ i = .int .i64 k ∧ Hid (PTo Lx.inner (l.drop a) k)) (fun i => l.length - (intOf i).toNat)
  case atStart => exact ⟨0, ha, rfl, fun j hj h => absurd h (Nat.not_lt_zero _)⟩
  case round =>
    obtain ⟨k, hk, rfl, hu⟩ := hrel
    obtain ⟨i, hi⟩ : ∃ i : Nat, i = a + k := ⟨_, rfl⟩
    have hii : (a : Int) + (k : Int) = (i : Int) := by omega
    have HI := Lib.hid hi
    clear hi
    by_cases hlt : i < l.length
    · have hcb : ((l[i]'hlt).toNat : Int) ≤ 255 := by have := (l[i]'hlt).toNat_lt; omega
      have hk1 : a + (k + 1) ≤ l.length := by have := HI.out; omega
      rcases h1 : Lx.digit ((l[i]'hlt).toNat : Int) with _ | _
      · have H1 := Lib.hid h1
        clear h1
        rcases h2 : Lx.letter ((l[i]'hlt).toNat : Int) with _ | _
        · have H2 := Lib.hid h2
          clear h2
          rcases h3 : (((l[i]'hlt).toNat : Int) != 95) with _ | _
          · go_wp2_with fail
            refine (refdigit_any _ _).mono ?_
            rintro e w' ⟨rfl, rfl⟩
            rw [H1.out]
            go_wp2_with fail
            refine (refletter_any _ _).mono ?_
            rintro e w' ⟨rfl, rfl⟩
            rw [H2.out]
            go_wp2_with fail
            go_round
            case rel =>
              refine ⟨k + 1, hk1, by go_num, run_step hu.out HI.out hlt ?_⟩
              have : (((l[i]'hlt).toNat : Int) == 95) = true := by simpa using h3
              rw [inner_eq, H1.out, H2.out, this]; rfl
            case measure => simp [intOf]; omega
          · go_wp2_with fail
            refine (refdigit_any _ _).mono ?_
            rintro e w' ⟨rfl, rfl⟩
            rw [H1.out]
            go_wp2_with fail
            refine (refletter_any _ _).mono ?_
            rintro e w' ⟨rfl, rfl⟩
            rw [H2.out]
            go_wp2_with fail
            go_ret
            have hin : Lx.inner ((l[i]'hlt).toNat : Int) = false := by
              have : (((l[i]'hlt).toNat : Int) == 95) = false := by simpa using h3
              rw [inner_eq, H1.out, H2.out, this]; rfl
            rw [run_end hu.out HI.out hlt hin]
            exact ⟨rfl, rfl⟩
        · have H2 := Lib.hid h2
          clear h2
          go_wp2_with fail
          refine (refdigit_any _ _).mono ?_
          rintro e w' ⟨rfl, rfl⟩
          rw [H1.out]
          go_wp2_with fail
          refine (refletter_any _ _).mono ?_
          rintro e w' ⟨rfl, rfl⟩
          rw [H2.out]
          go_wp2_with fail
          go_round
          case rel =>
            refine ⟨k + 1, hk1, by go_num, run_step hu.out HI.out hlt ?_⟩
            rw [inner_eq, H2.out]; rfl
          case measure => simp [intOf]; omega
      · have H1 := Lib.hid h1
        clear h1
        go_wp2_with fail
        refine (refdigit_any _ _).mono ?_
        rintro e w' ⟨rfl, rfl⟩
        rw [H1.out]
        go_wp2_with fail
        go_round
        case rel =>
          refine ⟨k + 1, hk1, by go_num, run_step hu.out HI.out hlt ?_⟩
          rw [inner_eq, H1.out]; simp
        case measure => simp [intOf]; omega
    · go_wp2_with fail
      go_ret
      rw [pTo_len hu.out (.inl (by rw [HLD.out]; have := HI.out; omega))]
      exact ⟨rfl, rfl⟩
set_option maxHeartbeats 4000000 in
theorem refrun1 (l : List UInt8) (a : Nat) (ha : a ≤ l.length) (hl : l.length ≤ maxLen) (w : World) :
    Calls Try.prog 102 #[.string ⟨l.toArray⟩, .int .i64 a, .int .i64 1] w fun e w' => e = .returned (.int .i64 (Lx.hd Lx.digit (l.drop a)).length) ∧ w = w' := by
  unfold maxLen at hl
  have HLD := Lib.hid (List.length_drop (i := a) (l := l))
  go_enter Try.func102, Try.ntmps102
  go_wp2
  go_loop [7] (fun i => ∃ k : Nat, a + k ≤ l.length ∧ i = .int .i64 k ∧ Hid (PTo Lx.digit (l.drop a) k)) (fun i => l.length - (intOf i).toNat)
  case atStart => exact ⟨0, ha, rfl, fun j hj h => absurd h (Nat.not_lt_zero _)⟩
  case round =>
    obtain ⟨k, hk, rfl, hu⟩ := hrel
    obtain ⟨i, hi⟩ : ∃ i : Nat, i = a + k := ⟨_, rfl⟩
    have hii : (a : Int) + (k : Int) = (i : Int) := by omega
    have HI := Lib.hid hi
    clear hi
    by_cases hlt : i < l.length
    · have hcb : ((l[i]'hlt).toNat : Int) ≤ 255 := by have := (l[i]'hlt).toNat_lt; omega
      have hk1 : a + (k + 1) ≤ l.length := by have := HI.out; omega
      rcases h1 : Lx.digit ((l[i]'hlt).toNat : Int) with _ | _
      · have H1 := Lib.hid h1
        clear h1
        go_wp2_with fail
        refine (refdigit_any _ _).mono ?_
        rintro e w' ⟨rfl, rfl⟩
        rw [H1.out]
        go_wp2_with fail
        go_ret
        rw [run_end hu.out HI.out hlt H1.out]
        exact ⟨rfl, rfl⟩
      · have H1 := Lib.hid h1
        clear h1
        go_wp2_with fail
        refine (refdigit_any _ _).mono ?_
        rintro e w' ⟨rfl, rfl⟩
        rw [H1.out]
        go_wp2_with fail
        go_round
        case rel =>
          exact ⟨k + 1, hk1, by go_num, run_step hu.out HI.out hlt H1.out⟩
        case measure => simp [intOf]; omega
    · go_wp2_with fail
      go_ret
      rw [pTo_len hu.out (.inl (by rw [HLD.out]; have := HI.out; omega))]
      exact ⟨rfl, rfl⟩
end Go.Proofs.Ytilkilffkjhhbaa
namespace Go.Proofs.Ytilkilffkjhhbaa
set_option maxRecDepth 20000
set_option linter.unusedVariables false
open Go.RowKit
attribute [local go_sem] ex_take ex_drop ba_get

/-- where what is left behind blanks and remarks begins -/
def SkipPost (l : List UInt8) (a : Nat) (w : World) (e : Ending) (w' : World) : Prop := ∃ r : Nat, e = .returned (.int .i64 r) ∧ r ≤ l.length ∧ l.drop r = Lx.pass (l.drop a) ∧ w = w'
theorem drop_cons {l : List UInt8} {k : Nat} (h : k < l.length) : l.drop k = l[k]'h :: l.drop (k + 1) := List.drop_eq_getElem_cons h
theorem skip_blank {l : List UInt8} {k : Nat} (h : k < l.length) (hb : Lx.blank ((l[k]'h).toNat : Int) = true) : Lx.pass (l.drop k) = Lx.pass (l.drop (k + 1)) := by
  rw [drop_cons h]
  exact Lx.pass_blank hb _
theorem skip_end {l : List UInt8} {k : Nat} (h : ¬ k < l.length) : Lx.pass (l.drop k) = l.drop k := by
  rw [List.drop_eq_nil_of_le (by omega)]
  exact Lx.pass_nil
theorem take2_drop {l : List UInt8} {k : Nat} (h : k < l.length) (h1 : k + 1 < l.length) : (l.drop k).take 2 = [l[k]'h, l[k + 1]'h1] := by
  rw [drop_cons h, drop_cons h1]
  rfl
theorem skip_stop {l : List UInt8} {k : Nat} (h : k < l.length) (hb : Lx.blank ((l[k]'h).toNat : Int) = false) (h2 : (l.drop k).take 2 ≠ [45, 45]) : Lx.pass (l.drop k) = l.drop k := by
  refine Lx.pass_same (fun c r e => ?_) h2
  rw [drop_cons h] at e
  injection e with e1 e2
  rw [← e1]
  exact hb
theorem skip_remark {l : List UInt8} {k : Nat} (h : k < l.length) (hb : Lx.blank ((l[k]'h).toNat : Int) = false) (h2 : (l.drop k).take 2 = [45, 45]) : Lx.pass (l.drop k) = Lx.pass ((l.drop k).dropWhile (Lx.bp Lx.other)) := by
  rw [Lx.pass_eq]
  have e : (l.drop k).dropWhile (Lx.bp Lx.blank) = l.drop k := by
    rw [drop_cons h, List.dropWhile_cons, if_neg]
    intro h
    have h' : Lx.blank ((l[k]).toNat : Int) = true := h
    rw [hb] at h'
    cases h'
  rw [e, if_pos h2]
theorem other_step {l : List UInt8} {k : Nat} (h : k < l.length) (hc : (l[k]'h).toNat ≠ 10) : (l.drop k).dropWhile (Lx.bp Lx.other) = (l.drop (k + 1)).dropWhile (Lx.bp Lx.other) := by
  have hp : Lx.bp Lx.other (l[k]'h) = true := by
    unfold Lx.bp Lx.other
    simp only [bne_iff_ne, ne_eq]
    omega
  rw [drop_cons h, List.dropWhile_cons, if_pos hp]
theorem other_stop {l : List UInt8} {k : Nat} (h : k < l.length) (hc : (l[k]'h).toNat = 10) : (l.drop k).dropWhile (Lx.bp Lx.other) = l.drop k := by
  have hp : ¬ Lx.bp Lx.other (l[k]'h) = true := by
    unfold Lx.bp Lx.other
    rw [hc]
    decide
  rw [drop_cons h, List.dropWhile_cons, if_neg hp]
theorem other_end {l : List UInt8} {k : Nat} (h : ¬ k < l.length) : (l.drop k).dropWhile (Lx.bp Lx.other) = l.drop k := by
  rw [List.drop_eq_nil_of_le (by omega)]
  rfl
theorem u8_of {c : UInt8} {n : Nat} (hn : n < 256) : (c.toNat = n) ↔ c = UInt8.ofNat n := by
  constructor
  · intro h; rw [← h]; simp
  · intro h; rw [h]; simp; omega
set_option maxHeartbeats 8000000 in
theorem refskip (l : List UInt8) (a : Nat) (ha : a ≤ l.length) (hl : l.length ≤ maxLen) (w : World) :
    Calls Try.prog 69 #[.string ⟨l.toArray⟩, .int .i64 a] w (SkipPost l a w) := by
  unfold maxLen at hl
  go_enter Try.func69, Try.ntmps69
  go_wp2
  go_loopg [1] (l.length - a) (fun G i wr => ∃ k : Nat, k ≤ l.length ∧ G = l.length - k ∧ i = .int .i64 k ∧ Hid (Lx.pass (l.drop a) = Lx.pass (l.drop k)) ∧ w = wr)
  case atStart => exact ⟨a, ha, rfl, rfl, rfl, rfl⟩
  case round =>
    obtain ⟨k, hk, rfl, rfl, hu, rfl⟩ := hrel
    by_cases hlt : k < l.length
    · have hcb : ((l[k]'hlt).toNat : Int) ≤ 255 := by have := (l[k]'hlt).toNat_lt; omega
      rcases h1 : Lx.blank ((l[k]'hlt).toNat : Int) with _ | _
      · have H1 := Lib.hid h1
        clear h1
        have hstop : Hid ((l.drop k).take 2 ≠ [45, 45] → SkipPost l a w (.returned (.int .i64 k)) w) := fun h => ⟨k, rfl, hk, (hu.out.trans (skip_stop hlt H1.out h)).symm, rfl⟩
        by_cases hl2 : k + 1 < l.length
        · obtain ⟨k2, hl3, hii, ht2⟩ : ∃ (k2 : Nat) (h : k2 < l.length), (k : Int) + 1 = (k2 : Int) ∧ Hid ((l.drop k).take 2 = [l[k]'hlt, l[k2]'h]) := ⟨k + 1, hl2, by omega, take2_drop hlt hl2⟩
          clear hl2
          rcases h45 : (((l[k]'hlt).toNat : Int) == 45) with _ | _
          · have hne : Hid ((l.drop k).take 2 ≠ [45, 45]) := fun h => by
              rw [ht2.out] at h
              injection h with h _
              rw [h] at h45
              exact absurd h45 (by decide)
            go_wp2_with fail
            refine (refblank_any _ _).mono ?_
            rintro e w' ⟨rfl, rfl⟩
            rw [H1.out]
            go_wp2_with fail
            go_ret
            exact hstop.out hne.out
          · rcases h46 : (((l[k2]'hl3).toNat : Int) == 45) with _ | _
            · have hne : Hid ((l.drop k).take 2 ≠ [45, 45]) := fun h => by
                rw [ht2.out] at h
                injection h with _ h
                injection h with h _
                rw [h] at h46
                exact absurd h46 (by decide)
              go_wp2_with fail
              refine (refblank_any _ _).mono ?_
              rintro e w' ⟨rfl, rfl⟩
              rw [H1.out]
              go_wp2_with fail
              go_ret
              exact hstop.out hne.out
            · have he : (l.drop k).take 2 = [45, 45] := by
                rw [ht2.out]
                rw [beq_iff_eq] at h45 h46
                rw [(u8_of (c := l[k]'hlt) (n := 45) (by omega)).1 (by omega), (u8_of (c := l[k2]'hl3) (n := 45) (by omega)).1 (by omega)]
                rfl
              have HP : Hid (Lx.pass (l.drop a) = Lx.pass ((l.drop k).dropWhile (Lx.bp Lx.other))) := hu.out.trans (skip_remark hlt H1.out he)
              have H45 : Hid ((l[k]'hlt).toNat = 45) := by unfold RowKit.Hid; rw [beq_iff_eq] at h45; omega
              have HLT := Lib.hid hlt
              clear he ht2 hstop
              go_wp2_with fail
              refine (refblank_any _ _).mono ?_
              rintro e w' ⟨rfl, rfl⟩
              rw [H1.out]
              go_wp2_with fail
              clear h45 h46
              go_loopg [1] (l.length - k) (fun G i wr => ∃ j : Nat, j ≤ l.length ∧ k ≤ j ∧ G = l.length - j ∧ i = .int .i64 j ∧ Hid ((l.drop k).dropWhile (Lx.bp Lx.other) = (l.drop j).dropWhile (Lx.bp Lx.other)) ∧ w = wr)
              case atStart => exact ⟨k, hk, Nat.le_refl _, rfl, rfl, rfl, rfl⟩
              case round =>
                obtain ⟨j, hj, hkj, rfl, rfl, hv, rfl⟩ := hrel
                by_cases hjl : j < l.length
                · rcases h10 : (((l[j]'hjl).toNat : Int) != 10) with _ | _
                  · have hc : (l[j]'hjl).toNat = 10 := by
                      have : ((l[j]'hjl).toNat : Int) = 10 := by simpa using h10
                      omega
                    have HN : Hid (Lx.pass (l.drop a) = Lx.pass (l.drop j)) := by
                      unfold RowKit.Hid
                      rw [HP.out, hv.out, other_stop hjl hc]
                    have HKJ : Hid (k < j) := by
                      unfold RowKit.Hid
                      rcases Nat.lt_or_ge k j with h | h
                      · exact h
                      · obtain rfl : j = k := by omega
                        have := H45.out; omega
                    clear hc
                    go_wp2_with fail
                    go_roundg (l.length - j)
                    case measure => have := HKJ.out; omega
                    case rel => exact ⟨j, hj, rfl, rfl, HN, rfl⟩
                  · have hc : (l[j]'hjl).toNat ≠ 10 := by
                      have : ((l[j]'hjl).toNat : Int) ≠ 10 := by simpa using h10
                      omega
                    have HN : Hid ((l.drop k).dropWhile (Lx.bp Lx.other) = (l.drop (j + 1)).dropWhile (Lx.bp Lx.other)) := hv.out.trans (other_step hjl hc)
                    clear hc
                    go_wp2_with fail
                    go_roundg (l.length - (j + 1))
                    case measure => omega
                    case rel => exact ⟨j + 1, hjl, by omega, rfl, by go_num, HN, rfl⟩
                · have HN : Hid (Lx.pass (l.drop a) = Lx.pass (l.drop j)) := by
                    unfold RowKit.Hid
                    rw [HP.out, hv.out, other_end hjl]
                  go_wp2_with fail
                  go_roundg (l.length - j)
                  case measure => have := HLT.out; omega
                  case rel => exact ⟨j, hj, rfl, rfl, HN, rfl⟩
        · have hne : Hid ((l.drop k).take 2 ≠ [45, 45]) := fun h => by
            have := congrArg List.length h
            rw [List.length_take, List.length_drop] at this
            simp at this
            omega
          go_wp2_with fail
          refine (refblank_any _ _).mono ?_
          rintro e w' ⟨rfl, rfl⟩
          rw [H1.out]
          go_wp2_with fail
          go_ret
          exact hstop.out hne.out
      · have HN : Hid (Lx.pass (l.drop a) = Lx.pass (l.drop (k + 1))) := hu.out.trans (skip_blank hlt h1)
        have H1 := Lib.hid h1
        clear h1
        go_wp2_with fail
        refine (refblank_any _ _).mono ?_
        rintro e w' ⟨rfl, rfl⟩
        rw [H1.out]
        go_wp2_with fail
        go_roundg (l.length - (k + 1))
        case measure => omega
        case rel => exact ⟨k + 1, hlt, rfl, by go_num, HN, rfl⟩
    · have HN : Hid (SkipPost l a w (.returned (.int .i64 k)) w) := ⟨k, rfl, hk, (hu.out.trans (skip_end hlt)).symm, rfl⟩
      go_wp2_with fail
      go_ret
      exact HN.out
end Go.Proofs.Ytilkilffkjhhbaa
namespace Go.Proofs.Ytilkilffkjhhbaa
set_option maxRecDepth 20000
set_option linter.unusedVariables false
open Go.RowKit Tr Mem
attribute [local go_sem] ex_take ex_drop ba_get

theorem concat_of (l : Lx.Bs) : l = [] ∨ ∃ m c, l = m ++ [c] := by
  rcases List.eq_nil_or_concat l with h | ⟨m, c, h⟩
  · exact .inl h
  · exact .inr ⟨m, c, by rw [h]; simp⟩
theorem numVal_concat (m : Lx.Bs) (c : UInt8) : Lx.numVal (m ++ [c]) = 10 * Lx.numVal m + ((c.toNat : Int) - 48) := by
  unfold Lx.numVal
  rw [List.foldl_append]
  rfl
theorem allDigits_concat {m : Lx.Bs} {c : UInt8} (h : AllDigits (m ++ [c])) : AllDigits m ∧ (48 ≤ (c.toNat : Int) ∧ (c.toNat : Int) ≤ 57) :=
  ⟨fun x hx => h x (List.mem_append_left _ hx), digit_bd (h c (by simp))⟩
theorem numVal_nonneg : ∀ (k : Nat) (l : Lx.Bs), l.length ≤ k → AllDigits l → 0 ≤ Lx.numVal l
  | 0, l, hk, _ => by
    obtain rfl : l = [] := List.length_eq_zero_iff.1 (by omega)
    simp [Lx.numVal]
  | k + 1, l, hk, hd => by
    rcases concat_of l with rfl | ⟨m, c, rfl⟩
    · simp [Lx.numVal]
    · obtain ⟨hm, hc⟩ := allDigits_concat hd
      have := numVal_nonneg k m (by simp at hk; omega) hm
      rw [numVal_concat]; omega
theorem headD_concat {m : Lx.Bs} {c : UInt8} (h : m ≠ []) : (m ++ [c]).headD 0 = m.headD 0 := by
  cases m with
  | nil => exact absurd rfl h
  | cons a r => rfl
theorem numVal_pos : ∀ (k : Nat) (l : Lx.Bs), l.length ≤ k → l ≠ [] → AllDigits l → l.headD 0 ≠ 48 → 0 < Lx.numVal l
  | 0, l, hk, h0, _, _ => absurd (List.length_eq_zero_iff.1 (by omega)) h0
  | k + 1, l, hk, h0, hd, hh => by
    rcases concat_of l with rfl | ⟨m, c, rfl⟩
    · exact absurd rfl h0
    · obtain ⟨hm, hc⟩ := allDigits_concat hd
      rw [numVal_concat]
      by_cases hme : m = []
      · subst hme
        have hne : c.toNat ≠ 48 := fun e => hh (UInt8.toNat_inj.1 e)
        have : Lx.numVal [] = 0 := rfl
        rw [this]; omega
      · rw [headD_concat hme] at hh
        have := numVal_pos k m (by rw [List.length_append] at hk; simp only [List.length_cons, List.length_nil] at hk; omega) hme hm hh
        omega
theorem digitsF_num : ∀ (f : Nat) (l acc : Lx.Bs), l.length ≤ f → l ≠ [] → AllDigits l → (l.headD 0 ≠ 48 ∨ l.length = 1) → digitsF f (Lx.numVal l).toNat acc = l ++ acc
  | 0, l, acc, hk, h0, _, _ => absurd (List.length_eq_zero_iff.1 (by omega)) h0
  | f + 1, l, acc, hk, h0, hd, hh => by
    rcases concat_of l with rfl | ⟨m, c, rfl⟩
    · exact absurd rfl h0
    · obtain ⟨hm, hc⟩ := allDigits_concat hd
      have hn := numVal_nonneg _ m (Nat.le_refl _) hm
      rw [numVal_concat]
      have hq : (10 * Lx.numVal m + ((c.toNat : Int) - 48)).toNat / 10 = (Lx.numVal m).toNat := by omega
      have hdg : dgt (10 * Lx.numVal m + ((c.toNat : Int) - 48)).toNat = c := by
        refine UInt8.toNat_inj.1 ?_
        have := dgt_val (10 * Lx.numVal m + ((c.toNat : Int) - 48)).toNat
        omega
      rw [digitsF_eq, hq, hdg]
      by_cases hme : m = []
      · subst hme
        rw [if_pos (show (Lx.numVal []).toNat = 0 from rfl)]
        rfl
      · have hh' : m.headD 0 ≠ 48 := by
          rcases hh with h | h
          · rw [headD_concat hme] at h; exact h
          · have : 0 < m.length := List.length_pos_iff.2 hme
            rw [List.length_append] at h
            simp only [List.length_cons, List.length_nil] at h
            omega
        have hp := numVal_pos _ m (Nat.le_refl _) hme hm hh'
        rw [if_neg (by omega), digitsF_num f m (c :: acc) (by rw [List.length_append] at hk; simp only [List.length_cons, List.length_nil] at hk; omega) hme hm (.inl hh')]
        simp
theorem digits_num {l : Lx.Bs} (h0 : l ≠ []) (hd : AllDigits l) (hr : Lx.readOk l = true) : digits (Lx.numVal l) = l := by
  unfold Lx.readOk at hr
  simp only [Bool.and_eq_true, decide_eq_true_eq, Bool.not_eq_true', Bool.and_eq_false_iff] at hr
  obtain ⟨⟨h11, hz⟩, hmax⟩ := hr
  have hn := numVal_nonneg _ l (Nat.le_refl _) hd
  rw [digits_nat _ hn]
  have hh : l.headD 0 ≠ 48 ∨ l.length = 1 := by
    rcases hz with h | h
    · exact .inl (by simpa using h)
    · refine .inr ?_
      have : l = [48] := by simpa using h
      rw [this]; rfl
  by_cases h10 : l.length ≤ 10
  · rw [digitsF_num 10 l [] h10 h0 hd hh, List.append_nil]
  · -- eleven digits without a zero ahead are too many
    exfalso
    have hl : l.length = 11 := by omega
    rcases hh with h | h
    · have big : ∀ (k : Nat) (l : Lx.Bs), l.length = k + 1 → AllDigits l → l.headD 0 ≠ 48 → (10 : Int) ^ k ≤ Lx.numVal l := by
        intro k
        induction k with
        | zero =>
          intro l hl hd hh
          have := numVal_pos _ l (Nat.le_refl _) (by intro e; rw [e] at hl; simp at hl) hd hh
          simp; omega
        | succ k ih =>
          intro l hl hd hh
          rcases concat_of l with rfl | ⟨m, c, rfl⟩
          · simp at hl
          · obtain ⟨hm, hc⟩ := allDigits_concat hd
            have hml : m.length = k + 1 := by simp at hl; omega
            have hme : m ≠ [] := by intro e; rw [e] at hml; simp at hml
            rw [headD_concat hme] at hh
            have := ih m hml hm hh
            rw [numVal_concat, Int.pow_succ]
            omega
      have := big 10 l hl hd h
      have e : (10 : Int) ^ 10 = 10000000000 := by decide
      omega
    · omega
/-! the functions -/
theorem reflow (n : Int) (h0 : 0 ≤ n) (h1 : n ≤ 2147483647) (w : World) : Calls Try.prog 116 #[.int .i64 n] w fun e w' => e = .returned (.int .i32 n) ∧ w = w' := by
  have hr : Int.tmod n 4294967296 = n := Int.tmod_eq_of_lt h0 (by omega)
  have b1 : ¬ n < 0 := by omega
  have b2 : ¬ (2147483648 : Int) ≤ n := by omega
  go_enter Try.func116, Try.ntmps116
  go_wp2_with fail
  go_ret
  exact ⟨rfl, rfl⟩
theorem reflow_top (w : World) : Calls Try.prog 116 #[.int .i64 2147483648] w fun e w' => e = .returned (.int .i32 (-2147483648)) ∧ w = w' := by
  go_enter Try.func116, Try.ntmps116
  go_wp2_with fail
  go_ret
  exact ⟨rfl, rfl⟩
theorem refsize_min (w : World) : Calls Try.prog 109 #[.int .i32 (-2147483648)] w fun e w' => e = .returned (.int .i64 2147483648) ∧ w = w' := by
  go_enter Try.func109, Try.ntmps109
  go_wp2_with fail
  go_ret
  exact ⟨rfl, rfl⟩
def NegPost (w : World) (e : Ending) (w' : World) : Prop := ∃ r : Lx.Bs, e = .returned (.string ⟨(45 :: r).toArray⟩) ∧ Below w.heap.size w w'
set_option maxHeartbeats 4000000 in
theorem refdigits_min (w : World) : Calls Try.prog 83 #[.int .i32 (-2147483648)] w (NegPost w) := by
  go_enter Try.func83, Try.ntmps83
  go_wp2_with fail
  refine (refsize_min _).mono ?_
  rintro e w' ⟨rfl, rfl⟩
  go_wp2_with fail
  go_loopw [3, 4] (fun n s wr => ∃ (p m : Nat) (acc : Lx.Bs), n = .int .i64 (m : Nat) ∧ s = .string ⟨acc.toArray⟩ ∧ 1 ≤ p ∧ p ≤ 10 ∧ acc.length ≤ 10 - p ∧ m < 10 ^ p ∧ m ≤ 2147483648 ∧ Below w.heap.size w wr) (fun n _ _ => (intOf n).toNat)
  case atStart => exact ⟨10, 2147483648, [], rfl, rfl, by omega, by omega, by simp, by omega, by omega, Below.refl _ _⟩
  case round =>
    obtain ⟨p, m, acc, rfl, rfl, hp1, hp, hacc, hm, hm2, hb⟩ := hrel
    obtain ⟨p, rfl⟩ : ∃ q, p = q + 1 := ⟨p - 1, by omega⟩
    have hcv := conv_one wr m
    by_cases h0 : m / 10 = 0
    · have b0 : ¬ (9 : Int) < (m : Int) := by omega
      have hmm : (m : Int) % 10 = (m : Int) := by omega
      rw [hmm] at hcv
      have HB1 := Lib.hid (hb.alloc hb.size (.cells #[.int .u8 (48 + (m : Int))] 5))
      clear h0 hmm
      go_wp2_with fail
      go_ret
      exact ⟨dg m :: acc, by simp [ba_append], HB1.out⟩
    · have b0 : (9 : Int) < (m : Int) := by omega
      have HB1 := Lib.hid (hb.alloc hb.size (.cells #[.int .u8 (48 + (m : Int) % 10)] 5))
      have hpow : (10 : Nat) ^ (p + 1) = 10 * 10 ^ p := by rw [Nat.pow_succ, Nat.mul_comm]
      have hm3 : m / 10 < 10 ^ p := by omega
      have hp3 : 1 ≤ p := by
        rcases p with _ | q
        · simp at hm3; omega
        · omega
      clear hpow hm
      go_wp2_with fail
      go_roundw
      case rel => exact ⟨p, m / 10, dg m :: acc, by go_num, by simp [ba_append], hp3, by omega, by simp; omega, hm3, by omega, HB1.out⟩
      case measure => simp [intOf]; omega
end Go.Proofs.Ytilkilffkjhhbaa
namespace Go.Proofs.Ytilkilffkjhhbaa
set_option maxRecDepth 20000
set_option linter.unusedVariables false
open Go.RowKit Tr Mem
attribute [local go_sem] ex_take ex_drop ba_get

theorem read_big {l : Lx.Bs} {k : Nat} (hk : k = l.length ∨ k = 11) (h : 2147483647 < Lx.numVal (l.take k)) : Lx.readOk l = false := by
  rcases hr : Lx.readOk l with _ | _
  · rfl
  · exfalso
    unfold Lx.readOk at hr
    simp only [Bool.and_eq_true, decide_eq_true_eq, Bool.not_eq_true', Bool.and_eq_false_iff] at hr
    obtain ⟨⟨h11, -⟩, hmax⟩ := hr
    rw [List.take_of_length_le (by omega)] at h
    omega
theorem read_yes {l : Lx.Bs} {k : Nat} (h0 : 0 ≤ Lx.numVal (l.take k)) (h1 : Lx.numVal (l.take k) ≤ 2147483647) (h : digits (Lx.numVal (l.take k)) = l) : Lx.readOk l = true ∧ Lx.numVal l = Lx.numVal (l.take k) := by
  obtain ⟨-, -, a, b⟩ := digits_ok h0 h1
  rw [h] at a b
  exact ⟨a, b⟩
theorem read_no {l : Lx.Bs} {k : Nat} (hk : k = l.length ∨ k = 11) (h0 : l ≠ []) (hd : AllDigits l) (h : digits (Lx.numVal (l.take k)) ≠ l) : Lx.readOk l = false := by
  rcases hr : Lx.readOk l with _ | _
  · rfl
  · exfalso
    have hn := digits_num h0 hd hr
    unfold Lx.readOk at hr
    simp only [Bool.and_eq_true, decide_eq_true_eq, Bool.not_eq_true', Bool.and_eq_false_iff] at hr
    obtain ⟨⟨h11, -⟩, hmax⟩ := hr
    rw [List.take_of_length_le (by omega)] at h
    exact h hn
set_option maxHeartbeats 4000000 in
theorem refread (l : Lx.Bs) (h0 : l ≠ []) (hd : AllDigits l) (hl : l.length ≤ maxLen) (w : World) :
    Calls Try.prog 105 #[.string ⟨l.toArray⟩] w fun e w' => e = .returned (.tuple #[.int .i32 (if Lx.readOk l then Lx.numVal l else 0), .bool (Lx.readOk l)]) ∧ Below w.heap.size w w' := by
  unfold maxLen at hl
  have hp : 0 < l.length := List.length_pos_iff.2 h0
  have hc := digit_bd (hd (l[0]'hp) (List.getElem_mem _))
  have h45 : (((l[0]'hp).toNat : Int) == 45) = false := by simp; omega
  have hl45 : ∀ r, (45 :: r : Lx.Bs) ≠ l := fun r e => by
    subst e
    have h := hc.1
    simp only [List.getElem_cons_zero] at h
    exact absurd h (by decide)
  have HL45 := Lib.hid hl45
  have HD := Lib.hid hd
  have H0 := Lib.hid h0
  clear hl45 h0 hd
  obtain ⟨ro, hro⟩ : ∃ r, r = Lx.readOk l := ⟨_, rfl⟩
  obtain ⟨rv, hrv⟩ : ∃ r, r = (if ro then Lx.numVal l else 0) := ⟨_, rfl⟩
  rw [← hro, ← hrv]
  have HRO := Lib.hid hro
  have HRV := Lib.hid hrv
  clear hro hrv
  go_enter Try.func105, Try.ntmps105
  go_wp2
  go_loopw [4, 5] (fun n i wr => ∃ k : Nat, k ≤ l.length ∧ k ≤ 11 ∧ i = .int .i64 k ∧ n = .int .i64 (Lx.numVal (l.take k)) ∧ w = wr) (fun _ i _ => l.length - (intOf i).toNat)
  case atStart => exact ⟨0, Nat.zero_le _, Nat.zero_le _, rfl, rfl, rfl⟩
  case round =>
    obtain ⟨k, hk, hk11, rfl, rfl, rfl⟩ := hrel
    have hb := numVal_bd l HD.out k hk hk11
    have hb2 : Lx.numVal (l.take k) ≤ 99999999999 := by have := pow_le k hk11; omega
    have hb1 := hb.1
    clear hb
    by_cases hlt : k < l.length ∧ k < 11
    · obtain ⟨hlt, hl11⟩ := hlt
      have hck := digit_bd (HD.out (l[k]'hlt) (List.getElem_mem _))
      have HS := Lib.hid (numVal_snoc l k hlt)
      go_wp2
      go_roundw
      case rel => exact ⟨k + 1, by omega, by omega, by go_num, by rw [HS.out], by first | rfl | trivial⟩
      case measure => simp [intOf]; omega
    · have hend : k = l.length ∨ k = 11 := by omega
      have HB := Lib.hid (read_big hend)
      have HY := Lib.hid (read_yes (l := l) (k := k))
      have HN := Lib.hid (read_no hend H0.out HD.out)
      generalize Lx.numVal (l.take k) = V at *
      have hd1 : k = l.length ∨ (k = 11 ∧ (11 : Int) < (l.length : Int)) := by omega
      clear hlt hend
      by_cases hV : V ≤ 2147483647
      · have HLow := Lib.hid (fun w => reflow V hb1 hV w)
        have HDg := Lib.hid (fun w => refdigits V.toNat (by omega) w)
        rw [Int.toNat_of_nonneg hb1] at HDg
        have hle1 : ¬ (2147483648 : Int) < V := by omega
        rcases hq : (digits V == l) with _ | _
        · have hne : (digits V != l) = true := by rw [bne, hq]; rfl
          have HR : Hid (ro = false) := HRO.out.trans (HN.out (by simpa using hq))
          have hro := HR.out
          subst hro
          have hrv : rv = 0 := HRV.out
          subst hrv
          rcases hd1 with rfl | ⟨rfl, hd2⟩
          all_goals
            go_wp2_with fail
            refine (HLow.out _).mono ?_
            rintro e w' ⟨rfl, rfl⟩
            go_wp2_with fail
            refine (HDg.out _).mono ?_
            rintro e w1 ⟨rfl, hb⟩
            go_wp2_with fail
            go_ret2
            exact ⟨rfl, hb⟩
        · have hne : (digits V != l) = false := by rw [bne, hq]; rfl
          have HY1 := HY.out hb1 hV (by simpa using hq)
          have HR : Hid (ro = true) := HRO.out.trans HY1.1
          have hro := HR.out
          subst hro
          have hrv : rv = V := HRV.out.trans HY1.2
          subst hrv
          clear HY1
          rcases hd1 with rfl | ⟨rfl, hd2⟩
          all_goals
            go_wp2_with fail
            refine (HLow.out _).mono ?_
            rintro e w' ⟨rfl, rfl⟩
            go_wp2_with fail
            refine (HDg.out _).mono ?_
            rintro e w1 ⟨rfl, hb⟩
            go_wp2_with fail
            go_ret2
            exact ⟨rfl, hb⟩
      · have HR : Hid (ro = false) := HRO.out.trans (HB.out (by omega))
        have hro := HR.out
        subst hro
        have hrv : rv = 0 := HRV.out
        subst hrv
        by_cases hV2 : V = 2147483648
        · subst hV2
          rcases hd1 with rfl | ⟨rfl, hd2⟩
          all_goals
            go_wp2_with fail
            refine (reflow_top _).mono ?_
            rintro e w' ⟨rfl, rfl⟩
            go_wp2_with fail
            refine (refdigits_min _).mono ?_
            rintro e w1 ⟨r, rfl, hb⟩
            have hq : ((45 :: r : Lx.Bs) == l) = false := by simpa using HL45.out r
            have hne : ((45 :: r : Lx.Bs) != l) = true := by rw [bne, hq]; rfl
            generalize (45 :: r : Lx.Bs) = r' at *
            go_wp2_with fail
            go_ret2
            exact ⟨rfl, hb⟩
        · have hgt : (2147483648 : Int) < V := by omega
          rcases hd1 with rfl | ⟨rfl, hd2⟩
          all_goals
            go_wp2_with fail
            go_ret2
            exact ⟨rfl, Below.refl _ _⟩
end Go.Proofs.Ytilkilffkjhhbaa
