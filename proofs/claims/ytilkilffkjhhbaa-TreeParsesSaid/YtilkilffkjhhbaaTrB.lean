/-
  When two expressions are the same: the function SameExpr of both.
-/
import Derived.Test.YtilkilffkjhhbaaTrMem
import Derived.StillTailTactics
namespace Go.Proofs.Ytilkilffkjhhbaa
set_option maxRecDepth 20000
set_option linter.unusedVariables false
open Go.RowKit Tr

def sameTo (s t : List Ex) (k : Nat) : Prop := ∀ j (hj : j < s.length) (hj' : j < t.length), j < k → same (s[j]'hj) (t[j]'hj') = true
theorem sames_of : ∀ (s t : List Ex), s.length = t.length → (∀ j (hj : j < s.length) (hj' : j < t.length), same (s[j]'hj) (t[j]'hj') = true) → sames s t = true
  | [], [], _, _ => sames_nil
  | [], _ :: _, h, _ => by simp at h
  | _ :: _, [], h, _ => by simp at h
  | x :: r, y :: t, h, hs => by
    have h0 := hs 0 (by simp) (by simp)
    simp only [List.getElem_cons_zero] at h0
    rw [sames_cons, h0, sames_of r t (by simpa using h) fun j hj hj' => by have := hs (j + 1) (by simpa using hj) (by simpa using hj'); simpa only [List.getElem_cons_succ] using this]
    simp
theorem sames_not : ∀ (s t : List Ex) (j : Nat) (hj : j < s.length) (hj' : j < t.length), same (s[j]'hj) (t[j]'hj') = false → sames s t = false := by
  intro s t j hj hj' h
  rcases hs : sames s t with _ | _
  · rfl
  · exfalso
    induction s generalizing t j with
    | nil => simp at hj
    | cons x r ih =>
      cases t with
      | nil => simp at hj'
      | cons y t =>
        rw [sames_cons, Bool.and_eq_true] at hs
        cases j with
        | zero => simp [hs.1] at h
        | succ j => exact ih t j (by simpa using hj) (by simpa using hj') (by simpa using h) hs.2
theorem sames_len_not {s t : List Ex} (h : s.length ≠ t.length) : sames s t = false := by
  rcases hs : sames s t with _ | _
  · rfl
  · exact absurd (sames_len s t hs) h
set_option maxHeartbeats 4000000 in
theorem sameExpr_any (B B' : Nat → Prop) : ∀ (c : Nat) (x y : Ex), size x ≤ c → ∀ (A A' : Option Addr) (cap cap' : Nat) (w : World), At w B x A → At w B' y A' → Fit x → Fit y →
    Calls Try.prog 30 #[exAgg x A cap, exAgg y A' cap'] w fun e w' => e = .returned (.bool (same x y)) ∧ Below w.heap.size w w' := by
  intro c
  induction c with
  | zero => intro x y h; have := size_pos x; omega
  | succ c ih =>
    intro x y hc A A' cap cap' w hA hA' hfit hfit'
    obtain ⟨k, n, m, s⟩ := x
    obtain ⟨k', n', m', s'⟩ := y
    rw [at_eq] at hA hA'
    rw [fit_eq] at hfit hfit'
    rw [size_eq] at hc
    have HA := Lib.hid hA
    have HA' := Lib.hid hA'
    have hs := hfit.2.2.1
    have hs' := hfit'.2.2.1
    have HF := Lib.hid hfit.2.2.2
    have HF' := Lib.hid hfit'.2.2.2
    have IH := Lib.hid ih
    obtain ⟨r, hr⟩ : ∃ r, r = same (.mk k n m s) (.mk k' n' m' s') := ⟨_, rfl⟩
    rw [← hr]
    rw [same_eq] at hr
    have HR := Lib.hid hr
    clear hA hA' hfit hfit' ih hr
    unfold exAgg
    dsimp only [Ex.kind, Ex.n, Ex.name, Ex.sub]
    unfold maxLen at hs hs'
    rcases h1 : (k == k') with _ | _
    · have hR : r = false := by rw [HR.out, h1]; rfl
      subst hR
      have f1 : (k != k') = true := by rw [bne, h1]; rfl
      clear h1
      go_enter Try.func30, Try.ntmps30
      go_wp2_with fail
      go_ret
      exact ⟨rfl, ((Below.refl _ _).alloc (Nat.le_refl _) _).alloc (by simp) _⟩
    have f1 : (k != k') = false := by rw [bne, h1]; rfl
    have H1 := Lib.hid h1
    clear h1
    rcases h2 : (n == n') with _ | _
    · have hR : r = false := by rw [HR.out, H1.out, h2]; rfl
      subst hR
      have f2 : (n != n') = true := by rw [bne, h2]; rfl
      clear h2
      go_enter Try.func30, Try.ntmps30
      go_wp2_with fail
      go_ret
      exact ⟨rfl, ((Below.refl _ _).alloc (Nat.le_refl _) _).alloc (by simp) _⟩
    have f2 : (n != n') = false := by rw [bne, h2]; rfl
    have H2 := Lib.hid h2
    clear h2
    rcases h3 : (m == m') with _ | _
    · have hR : r = false := by rw [HR.out, H1.out, H2.out, h3]; rfl
      subst hR
      go_enter Try.func30, Try.ntmps30
      go_wp2_with fail
      go_ret
      exact ⟨rfl, ((Below.refl _ _).alloc (Nat.le_refl _) _).alloc (by simp) _⟩
    have H3 := Lib.hid h3
    by_cases h4 : s.length = s'.length
    · have f4 : ((s.length : Int) != (s'.length : Int)) = false := by simp [h4]
      have H4 := Lib.hid h4
      clear h4
      go_enter Try.func30, Try.ntmps30
      go_wp2_with fail
      go_loopw [38] (fun i wr => ∃ j : Nat, j ≤ s.length ∧ i = .int .i64 j ∧ Hid (sameTo s s' j) ∧ Below w.heap.size w wr ∧ wr.cell? ⟨w.heap.size + 1, 3, none⟩ = some (.slice A' s'.length cap') ∧ w.heap.size + 1 < wr.heap.size) (fun i _ => s.length - (intOf i).toNat)
      case atStart => exact ⟨0, Nat.zero_le _, rfl, fun j _ _ h => absurd h (Nat.not_lt_zero _), ((Below.refl _ _).alloc (Nat.le_refl _) _).alloc (by simp) _, by simp [go_sem], by simp⟩
      case round =>
        obtain ⟨j, hj, rfl, HS, hb, e3, hz⟩ := hrel
        by_cases hlt : j < s.length
        · have hlt' : j < s'.length := by have := H4.out; omega
          obtain ⟨b, off, A1, c1, rfl, hbl, c0, c1', c2, c3, hx⟩ := HA.out.in_ hb j hlt
          obtain ⟨b', off', A1', cc', rfl, hbl', d0, d1', d2, d3, hx'⟩ := HA'.out.in_ hb j hlt'
          have HFX := Lib.hid (HF.out.mem (List.getElem_mem hlt))
          have HFX' := Lib.hid (HF'.out.mem (List.getElem_mem hlt'))
          have hsz := size_mem (List.getElem_mem hlt)
          have HNX : Hid (same (s[j]'hlt) (s'[j]'hlt') = true → sameTo s s' (j + 1)) := fun hs1 i hi hi' hlt1 => by
            rcases Nat.lt_or_ge i j with h | h
            · exact HS.out i hi hi' h
            · obtain rfl : i = j := by omega
              exact hs1
          have HNO : Hid (same (s[j]'hlt) (s'[j]'hlt') = false → r = false) := fun h => by rw [HR.out, sames_not s s' j hlt hlt' h, Bool.and_false]
          generalize hy : s[j]'hlt = y at *
          generalize hy' : s'[j]'hlt' = y' at *
          have HX := Lib.hid hx
          have HX' := Lib.hid hx'
          have HC := Lib.hid (fun W h h' => IH.out y y' (by omega) A1 A1' c1 cc' W h h' HFX.out HFX'.out)
          clear hx hx' hy hy'
          have HRD : Hid (∀ W1, W1 = wr.alloc (.cells #[.int .i64 y.kind, .int .i32 y.n, .string ⟨y.name.toArray⟩, .slice A1 y.sub.length c1] 43) → (W1.cell? ⟨wr.heap.size, 0, none⟩ = some (.int .i64 y.kind) ∧ W1.cell? ⟨wr.heap.size, 1, none⟩ = some (.int .i32 y.n) ∧ W1.cell? ⟨wr.heap.size, 2, none⟩ = some (.string ⟨y.name.toArray⟩) ∧ W1.cell? ⟨wr.heap.size, 3, none⟩ = some (.slice A1 y.sub.length c1)) ∧
              (W1.cell? ⟨w.heap.size + 1, 3, none⟩ = some (.slice (some ⟨b', off', none⟩) s'.length cap')) ∧ (W1.cell? ⟨b', off' + j * 4, none⟩ = some (.int .i64 y'.kind) ∧ W1.cell? ⟨b', off' + j * 4 + 1, none⟩ = some (.int .i32 y'.n) ∧ W1.cell? ⟨b', off' + j * 4 + 2, none⟩ = some (.string ⟨y'.name.toArray⟩) ∧ W1.cell? ⟨b', off' + j * 4 + 3, none⟩ = some (.slice A1' y'.sub.length cc')) ∧ Below wr.heap.size wr W1) := by
            rintro W1 rfl
            have hb1 : Below wr.heap.size wr (wr.alloc (.cells #[.int .i64 y.kind, .int .i32 y.n, .string ⟨y.name.toArray⟩, .slice A1 y.sub.length c1] 43)) := (Below.refl _ _).alloc (Nat.le_refl _) _
            have hz0 := hb.size
            refine ⟨⟨by simp [go_sem], by simp [go_sem], by simp [go_sem], by simp [go_sem]⟩, (hb1.cell (p := ⟨w.heap.size + 1, 3, none⟩) hz).trans e3, ⟨(hb1.cell (p := ⟨b', _, none⟩) (by simp only; omega)).trans d0, (hb1.cell (p := ⟨b', _, none⟩) (by simp only; omega)).trans d1', (hb1.cell (p := ⟨b', _, none⟩) (by simp only; omega)).trans d2, (hb1.cell (p := ⟨b', _, none⟩) (by simp only; omega)).trans d3⟩, hb1⟩
          go_wp2_with fail
          obtain ⟨W1, hW1⟩ : ∃ W1, W1 = wr.alloc (.cells #[.int .i64 y.kind, .int .i32 y.n, .string ⟨y.name.toArray⟩, .slice A1 y.sub.length c1] 43) := ⟨_, rfl⟩
          rw [← hW1]
          obtain ⟨⟨k0, k1, k2, k3⟩, e3', ⟨g0, g1, g2, g3⟩, hb1⟩ := HRD.out W1 hW1
          clear hW1 d0 d1' d2 d3 c0 c1' c2 c3 e3
          have HB1 := Lib.hid hb1
          clear hb1
          have r0 : (0 : Int) ≤ j := by omega
          have r1 : (j : Int) < (s'.length : Int) := by omega
          rcases hq : same y y' with _ | _
          · have hR := HNO.out hq
            subst hR
            rw [hq] at HC
            clear hq
            go_still_tail 6, (by kernel_rfl)
            go_wp2_with fail
            refine (HC.out _ ((HX.out.below HB1.out (Nat.le_refl _)).below ((Below.refl _ _).drew) (Nat.le_refl _)) ((HX'.out.below HB1.out (Nat.le_refl _)).below ((Below.refl _ _).drew) (Nat.le_refl _))).mono ?_
            rintro e w2 ⟨rfl, hb2⟩
            have HB2 := Lib.hid ((hb.trans (HB1.out.mono hb.size)).drew.trans (hb2.mono (Nat.le_trans hb.size HB1.out.size)))
            clear hb2
            go_wp2_with fail
            go_ret
            exact ⟨rfl, HB2.out⟩
          · have HN := Lib.hid (HNX.out hq)
            rw [hq] at HC
            clear hq
            go_still_tail 6, (by kernel_rfl)
            go_wp2_with fail
            refine (HC.out _ ((HX.out.below HB1.out (Nat.le_refl _)).below ((Below.refl _ _).drew) (Nat.le_refl _)) ((HX'.out.below HB1.out (Nat.le_refl _)).below ((Below.refl _ _).drew) (Nat.le_refl _))).mono ?_
            rintro e w2 ⟨rfl, hb2⟩
            have HB2 := Lib.hid ((hb.trans (HB1.out.mono hb.size)).drew.trans (hb2.mono (Nat.le_trans hb.size HB1.out.size)))
            have hz1 : w.heap.size + 1 < W1.drew.heap.size := Nat.lt_of_lt_of_le hz HB1.out.size
            have e4 : w2.cell? ⟨w.heap.size + 1, 3, none⟩ = some (.slice (some ⟨b', off', none⟩) s'.length cap') := (hb2.cell (p := ⟨w.heap.size + 1, 3, none⟩) hz1).trans e3'
            have hz2 := Nat.lt_of_lt_of_le hz1 hb2.size
            clear hb2 hz1
            go_wp2_with fail
            go_roundw
            case rel => exact ⟨j + 1, by omega, by go_num, HN, HB2.out, e4, hz2⟩
            case measure => simp [intOf]; omega
        · obtain rfl : j = s.length := by omega
          have hR : r = true := by
            rw [HR.out, H1.out, H2.out, H3.out, sames_of s s' H4.out fun i hi hi' => HS.out i hi hi' hi]; rfl
          subst hR
          go_wp2_with fail
          go_ret
          exact ⟨rfl, hb⟩
    · have hR : r = false := by rw [HR.out, sames_len_not h4, Bool.and_false]
      subst hR
      have f4 : ((s.length : Int) != (s'.length : Int)) = true := by simp; omega
      clear h4
      go_enter Try.func30, Try.ntmps30
      go_wp2_with fail
      go_ret
      exact ⟨rfl, ((Below.refl _ _).alloc (Nat.le_refl _) _).alloc (by simp) _⟩
set_option maxHeartbeats 4000000 in
theorem refSameExpr_any (B B' : Nat → Prop) : ∀ (c : Nat) (x y : Ex), size x ≤ c → ∀ (A A' : Option Addr) (cap cap' : Nat) (w : World), At w B x A → At w B' y A' → Fit x → Fit y →
    Calls Try.prog 28 #[exAgg x A cap, exAgg y A' cap'] w fun e w' => e = .returned (.bool (same x y)) ∧ Below w.heap.size w w' := by
  intro c
  induction c with
  | zero => intro x y h; have := size_pos x; omega
  | succ c ih =>
    intro x y hc A A' cap cap' w hA hA' hfit hfit'
    obtain ⟨k, n, m, s⟩ := x
    obtain ⟨k', n', m', s'⟩ := y
    rw [at_eq] at hA hA'
    rw [fit_eq] at hfit hfit'
    rw [size_eq] at hc
    have HA := Lib.hid hA
    have HA' := Lib.hid hA'
    have hs := hfit.2.2.1
    have hs' := hfit'.2.2.1
    have HF := Lib.hid hfit.2.2.2
    have HF' := Lib.hid hfit'.2.2.2
    have IH := Lib.hid ih
    obtain ⟨r, hr⟩ : ∃ r, r = same (.mk k n m s) (.mk k' n' m' s') := ⟨_, rfl⟩
    rw [← hr]
    rw [same_eq] at hr
    have HR := Lib.hid hr
    clear hA hA' hfit hfit' ih hr
    unfold exAgg
    dsimp only [Ex.kind, Ex.n, Ex.name, Ex.sub]
    unfold maxLen at hs hs'
    rcases h1 : (k == k') with _ | _
    · have hR : r = false := by rw [HR.out, h1]; rfl
      subst hR
      have f1 : (k != k') = true := by rw [bne, h1]; rfl
      clear h1
      go_enter Try.func28, Try.ntmps28
      go_wp2_with fail
      go_ret
      exact ⟨rfl, ((Below.refl _ _).alloc (Nat.le_refl _) _).alloc (by simp) _⟩
    have f1 : (k != k') = false := by rw [bne, h1]; rfl
    have H1 := Lib.hid h1
    clear h1
    rcases h2 : (n == n') with _ | _
    · have hR : r = false := by rw [HR.out, H1.out, h2]; rfl
      subst hR
      have f2 : (n != n') = true := by rw [bne, h2]; rfl
      clear h2
      go_enter Try.func28, Try.ntmps28
      go_wp2_with fail
      go_ret
      exact ⟨rfl, ((Below.refl _ _).alloc (Nat.le_refl _) _).alloc (by simp) _⟩
    have f2 : (n != n') = false := by rw [bne, h2]; rfl
    have H2 := Lib.hid h2
    clear h2
    rcases h3 : (m == m') with _ | _
    · have hR : r = false := by rw [HR.out, H1.out, H2.out, h3]; rfl
      subst hR
      go_enter Try.func28, Try.ntmps28
      go_wp2_with fail
      go_ret
      exact ⟨rfl, ((Below.refl _ _).alloc (Nat.le_refl _) _).alloc (by simp) _⟩
    have H3 := Lib.hid h3
    by_cases h4 : s.length = s'.length
    · have f4 : ((s.length : Int) != (s'.length : Int)) = false := by simp [h4]
      have H4 := Lib.hid h4
      clear h4
      go_enter Try.func28, Try.ntmps28
      go_wp2_with fail
      go_loopw [5] (fun i wr => ∃ j : Nat, j ≤ s.length ∧ i = .int .i64 j ∧ Hid (sameTo s s' j) ∧ Below w.heap.size w wr ∧ wr.cell? ⟨w.heap.size, 3, none⟩ = some (.slice A s.length cap) ∧ wr.cell? ⟨w.heap.size + 1, 3, none⟩ = some (.slice A' s'.length cap') ∧ w.heap.size + 1 < wr.heap.size) (fun i _ => s.length - (intOf i).toNat)
      case atStart => exact ⟨0, Nat.zero_le _, rfl, fun j _ _ h => absurd h (Nat.not_lt_zero _), ((Below.refl _ _).alloc (Nat.le_refl _) _).alloc (by simp) _, by simp [go_sem], by simp [go_sem], by simp⟩
      case round =>
        obtain ⟨j, hj, rfl, HS, hb, e3, e3b, hz⟩ := hrel
        by_cases hlt : j < s.length
        · have hlt' : j < s'.length := by have := H4.out; omega
          obtain ⟨b, off, A1, c1, rfl, hbl, c0, c1', c2, c3, hx⟩ := HA.out.in_ hb j hlt
          obtain ⟨b', off', A1', cc', rfl, hbl', d0, d1', d2, d3, hx'⟩ := HA'.out.in_ hb j hlt'
          have HFX := Lib.hid (HF.out.mem (List.getElem_mem hlt))
          have HFX' := Lib.hid (HF'.out.mem (List.getElem_mem hlt'))
          have hsz := size_mem (List.getElem_mem hlt)
          have HNX : Hid (same (s[j]'hlt) (s'[j]'hlt') = true → sameTo s s' (j + 1)) := fun hs1 i hi hi' hlt1 => by
            rcases Nat.lt_or_ge i j with h | h
            · exact HS.out i hi hi' h
            · obtain rfl : i = j := by omega
              exact hs1
          have HNO : Hid (same (s[j]'hlt) (s'[j]'hlt') = false → r = false) := fun h => by rw [HR.out, sames_not s s' j hlt hlt' h, Bool.and_false]
          generalize hy : s[j]'hlt = y at *
          generalize hy' : s'[j]'hlt' = y' at *
          have HX := Lib.hid hx
          have HX' := Lib.hid hx'
          have HC := Lib.hid (fun W h h' => IH.out y y' (by omega) A1 A1' c1 cc' W h h' HFX.out HFX'.out)
          clear hx hx' hy hy'
          have r0 : (0 : Int) ≤ j := by omega
          have r1 : (j : Int) < (s'.length : Int) := by omega
          have r2 : (j : Int) < (s.length : Int) := by omega
          rcases hq : same y y' with _ | _
          · have hR := HNO.out hq
            subst hR
            rw [hq] at HC
            clear hq
            go_wp2_with fail
            go_still_tail 10, (by kernel_rfl)
            go_wp2_with fail
            refine (HC.out _ (HX.out.below ((Below.refl _ _).drew) (Nat.le_refl _)) (HX'.out.below ((Below.refl _ _).drew) (Nat.le_refl _))).mono ?_
            rintro e w2 ⟨rfl, hb2⟩
            have HB2 := Lib.hid (hb.drew.trans (hb2.mono hb.size))
            clear hb2
            go_wp2_with fail
            go_ret
            exact ⟨rfl, HB2.out⟩
          · have HN := Lib.hid (HNX.out hq)
            rw [hq] at HC
            clear hq
            go_wp2_with fail
            go_still_tail 10, (by kernel_rfl)
            go_wp2_with fail
            refine (HC.out _ (HX.out.below ((Below.refl _ _).drew) (Nat.le_refl _)) (HX'.out.below ((Below.refl _ _).drew) (Nat.le_refl _))).mono ?_
            rintro e w2 ⟨rfl, hb2⟩
            have HB2 := Lib.hid (hb.drew.trans (hb2.mono hb.size))
            have e5 : w2.cell? ⟨w.heap.size, 3, none⟩ = some (.slice (some ⟨b, off, none⟩) s.length cap) := (hb2.cell (p := ⟨w.heap.size, 3, none⟩) (Nat.lt_of_succ_lt hz)).trans e3
            have e4 : w2.cell? ⟨w.heap.size + 1, 3, none⟩ = some (.slice (some ⟨b', off', none⟩) s'.length cap') := (hb2.cell (p := ⟨w.heap.size + 1, 3, none⟩) hz).trans e3b
            have hz2 : w.heap.size + 1 < w2.heap.size := Nat.lt_of_lt_of_le hz hb2.size
            clear hb2
            go_wp2_with fail
            go_roundw
            case rel => exact ⟨j + 1, by omega, by go_num, HN, HB2.out, e5, e4, hz2⟩
            case measure => simp [intOf]; omega
        · obtain rfl : j = s.length := by omega
          have hR : r = true := by
            rw [HR.out, H1.out, H2.out, H3.out, sames_of s s' H4.out fun i hi hi' => HS.out i hi hi' hi]; rfl
          subst hR
          go_wp2_with fail
          go_ret
          exact ⟨rfl, hb⟩
    · have hR : r = false := by rw [HR.out, sames_len_not h4, Bool.and_false]
      subst hR
      have f4 : ((s.length : Int) != (s'.length : Int)) = true := by simp; omega
      clear h4
      go_enter Try.func28, Try.ntmps28
      go_wp2_with fail
      go_ret
      exact ⟨rfl, ((Below.refl _ _).alloc (Nat.le_refl _) _).alloc (by simp) _⟩
end Go.Proofs.Ytilkilffkjhhbaa
