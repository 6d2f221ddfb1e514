/-
  How deep an expression is, and how many there are: the functions depth and Deep, count and Parts.
-/
import Derived.Test.YtilkilffkjhhbaaTrMem
namespace Go.Proofs.Ytilkilffkjhhbaa
set_option maxRecDepth 20000
set_option linter.unusedVariables false
open Go.RowKit Tr

def depthTo (s : List Ex) (k : Nat) : Nat := depths (s.take k)
theorem depths_append (s t : List Ex) : depths (s ++ t) = max (depths s) (depths t) := by
  induction s with
  | nil => simp [depths_nil]
  | cons x r ih => rw [List.cons_append, depths_cons, depths_cons, ih]; omega
theorem depthTo_succ {s : List Ex} {k : Nat} (h : k < s.length) : depthTo s (k + 1) = max (depthTo s k) (depth (s[k]'h)) := by
  unfold depthTo
  rw [List.take_succ_eq_append_getElem h, depths_append, depths_cons, depths_nil]; omega
theorem depthTo_le (s : List Ex) (k : Nat) : depthTo s k ≤ depths s := by
  have h := depths_append (s.take k) (s.drop k)
  rw [List.take_append_drop] at h
  unfold depthTo; omega
theorem depthTo_zero (s : List Ex) : depthTo s 0 = 0 := by simp [depthTo, depths_nil]
theorem depthTo_all (s : List Ex) : depthTo s s.length = depths s := by unfold depthTo; rw [List.take_length]
def sizeTo (s : List Ex) (k : Nat) : Nat := sizes (s.take k)
theorem sizes_append (s t : List Ex) : sizes (s ++ t) = sizes s + sizes t := by
  induction s with
  | nil => simp [sizes_nil]
  | cons x r ih => rw [List.cons_append, sizes_cons, sizes_cons, ih]; omega
theorem sizeTo_succ {s : List Ex} {k : Nat} (h : k < s.length) : sizeTo s (k + 1) = sizeTo s k + size (s[k]'h) := by
  unfold sizeTo
  rw [List.take_succ_eq_append_getElem h, sizes_append, sizes_cons, sizes_nil]; omega
theorem sizeTo_le (s : List Ex) (k : Nat) : sizeTo s k ≤ sizes s := by
  have h := sizes_append (s.take k) (s.drop k)
  rw [List.take_append_drop] at h
  unfold sizeTo; omega
theorem sizeTo_zero (s : List Ex) : sizeTo s 0 = 0 := by simp [sizeTo, sizes_nil]
theorem sizeTo_all (s : List Ex) : sizeTo s s.length = sizes s := by unfold sizeTo; rw [List.take_length]
set_option maxHeartbeats 4000000 in
theorem depth_any (B : Nat → Prop) : ∀ (c : Nat) (x : Ex), depth x ≤ c → c ≤ 1000000 → ∀ (A : Option Addr) (cap : Nat) (w : World), At w B x A → Fit x →
    Calls Try.prog 57 #[exAgg x A cap] w fun e w' => e = .returned (.int .i64 (depth x : Nat)) ∧ Below w.heap.size w w' := by
  intro c
  induction c with
  | zero => intro x h; obtain ⟨k, n, m, s⟩ := x; rw [depth_eq] at h; omega
  | succ c ih =>
    intro x hc hlim A cap w hA hfit
    obtain ⟨k, n, m, s⟩ := x
    rw [at_eq] at hA
    rw [fit_eq] at hfit
    rw [depth_eq] at hc ⊢
    have HA := Lib.hid hA
    have hs := hfit.2.2.1
    have HF := Lib.hid hfit.2.2.2
    have IH := Lib.hid ih
    clear hA hfit ih
    unfold exAgg
    dsimp only [Ex.kind, Ex.n, Ex.name, Ex.sub]
    unfold maxLen at hs
    go_enter Try.func57, Try.ntmps57
    go_wp2_with fail
    go_loopw [3, 9] (fun n i wr => ∃ j : Nat, j ≤ s.length ∧ i = .int .i64 j ∧ n = .int .i64 (depthTo s j : Nat) ∧ Below w.heap.size w wr) (fun _ i _ => s.length - (intOf i).toNat)
    case atStart => exact ⟨0, Nat.zero_le _, rfl, by rw [depthTo_zero]; rfl, (Below.refl _ _).alloc (Nat.le_refl _) _⟩
    case round =>
      obtain ⟨j, hj, rfl, rfl, hb⟩ := hrel
      by_cases hlt : j < s.length
      · obtain ⟨b, off, A', c', rfl, hbl, c0, c1, c2, c3, hx⟩ := HA.out.in_ hb j hlt
        have HD := Lib.hid (depthTo_succ hlt)
        have hle := depthTo_le s (j + 1)
        have hle0 := depthTo_le s j
        have HFX := Lib.hid (HF.out.mem (List.getElem_mem hlt))
        have hdd := HD.out
        generalize hy : s[j]'hlt = y at *
        have HX := Lib.hid hx
        have hdy : depth y ≤ c := by omega
        have HC := Lib.hid (fun W h => IH.out y hdy (by omega) A' c' W h HFX.out)
        clear hx hdd hy
        go_wp2_with fail
        refine (HC.out _ (HX.out.below ((Below.refl _ _).alloc (Nat.le_refl _) _) (Nat.le_refl _))).mono ?_
        rintro e w1 ⟨rfl, hb1⟩
        have HB1 := Lib.hid ((hb.alloc hb.size _).trans (hb1.mono (by have := hb.size; simp; omega)))
        clear hb1
        go_wp2_with fail
        go_roundw
        case rel => exact ⟨j + 1, by omega, by go_num, by rw [HD.out]; simp; omega, HB1.out⟩
        case measure => simp [intOf]; omega
      · obtain rfl : j = s.length := by omega
        have hle0 := depthTo_le s s.length
        have HD := Lib.hid (depthTo_all s)
        go_wp2_with fail
        go_ret
        exact ⟨ret_int (by rw [HD.out]; omega), hb⟩
set_option maxHeartbeats 4000000 in
theorem count_any (B : Nat → Prop) : ∀ (c : Nat) (x : Ex) (most : Nat), most ≤ c → 1 ≤ most → c ≤ 1000000 → ∀ (A : Option Addr) (cap : Nat) (w : World), At w B x A → Fit x →
    Calls Try.prog 56 #[exAgg x A cap, .int .i64 (most : Int)] w fun e w' => e = .returned (.int .i64 (min (size x) most : Nat)) ∧ Below w.heap.size w w' := by
  intro c
  induction c with
  | zero => intro x most h1 h2; omega
  | succ c ih =>
    intro x most hc h1 hlim A cap w hA hfit
    obtain ⟨k, n, m, s⟩ := x
    rw [at_eq] at hA
    rw [fit_eq] at hfit
    rw [size_eq]
    have HA := Lib.hid hA
    have hs := hfit.2.2.1
    have HF := Lib.hid hfit.2.2.2
    have IH := Lib.hid ih
    clear hA hfit ih
    unfold exAgg
    dsimp only [Ex.kind, Ex.n, Ex.name, Ex.sub]
    unfold maxLen at hs
    go_enter Try.func56, Try.ntmps56
    go_wp2_with fail
    go_loopw [5, 11] (fun n i wr => ∃ j t : Nat, j ≤ s.length ∧ i = .int .i64 j ∧ n = .int .i64 (t : Nat) ∧ t ≤ most ∧ Hid (t = min (1 + sizeTo s j) most) ∧ Below w.heap.size w wr) (fun _ i _ => s.length - (intOf i).toNat)
    case atStart => exact ⟨0, 1, Nat.zero_le _, rfl, rfl, h1, by unfold RowKit.Hid; rw [sizeTo_zero]; omega, (Below.refl _ _).alloc (Nat.le_refl _) _⟩
    case round =>
      obtain ⟨j, t, hj, rfl, rfl, htm, HT, hb⟩ := hrel
      by_cases hlt : j < s.length
      · obtain ⟨b, off, A', c', rfl, hbl, c0, c1, c2, c3, hx⟩ := HA.out.in_ hb j hlt
        by_cases hbr : most ≤ t
        · have HE : Hid (t = min (1 + sizes s) most) := by
            have := HT.out; have := sizeTo_le s j
            unfold RowKit.Hid; omega
          clear hx
          go_wp2_with fail
          go_ret
          exact ⟨ret_int (by rw [HE.out]), hb.alloc hb.size _⟩
        · have HD := Lib.hid (sizeTo_succ hlt)
          have HFX := Lib.hid (HF.out.mem (List.getElem_mem hlt))
          have hp := size_pos (s[j]'hlt)
          have ht1 : 1 ≤ t := by have := HT.out; omega
          generalize hy : s[j]'hlt = y at *
          have HX := Lib.hid hx
          have hm' : ((most - t : Nat) : Int) = (most : Int) - (t : Int) := by omega
          have hc1 := fun W h => IH.out y (most - t) (by omega) (by omega) (by omega) A' c' W h HFX.out
          rw [hm'] at hc1
          have HC := Lib.hid hc1
          obtain ⟨r, hr⟩ : ∃ r, r = min (size y) (most - t) := ⟨_, rfl⟩
          have hrl : r ≤ most - t := by omega
          rw [← hr] at HC
          have HR := Lib.hid hr
          clear hx hy hc1 hm' hr
          go_wp2_with fail
          refine (HC.out _ (HX.out.below ((Below.refl _ _).alloc (Nat.le_refl _) _) (Nat.le_refl _))).mono ?_
          rintro e w1 ⟨rfl, hb1⟩
          have HB1 := Lib.hid ((hb.alloc hb.size _).trans (hb1.mono (by have := hb.size; simp; omega)))
          clear hb1
          go_wp2_with fail
          go_roundw
          case rel => exact ⟨j + 1, t + r, by omega, by go_num, by go_num, by omega, by have := HT.out; have := HR.out; unfold RowKit.Hid; rw [HD.out]; omega, HB1.out⟩
          case measure => simp [intOf]; omega
      · obtain rfl : j = s.length := by omega
        have HE : Hid (t = min (1 + sizes s) most) := by
          have := HT.out
          rw [sizeTo_all] at this
          exact this
        go_wp2_with fail
        go_ret
        exact ⟨ret_int (by rw [HE.out]), hb⟩
set_option maxHeartbeats 4000000 in
theorem refparts_any (B : Nat → Prop) : ∀ (c : Nat) (x : Ex) (most : Nat), most ≤ c → 1 ≤ most → c ≤ 1000000 → ∀ (A : Option Addr) (cap : Nat) (w : World), At w B x A → Fit x →
    Calls Try.prog 20 #[exAgg x A cap, .int .i64 (most : Int)] w fun e w' => e = .returned (.int .i64 (min (size x) most : Nat)) ∧ Below w.heap.size w w' := by
  intro c
  induction c with
  | zero => intro x most h1 h2; omega
  | succ c ih =>
    intro x most hc h1 hlim A cap w hA hfit
    obtain ⟨k, n, m, s⟩ := x
    rw [at_eq] at hA
    rw [fit_eq] at hfit
    rw [size_eq]
    have HA := Lib.hid hA
    have hs := hfit.2.2.1
    have HF := Lib.hid hfit.2.2.2
    have IH := Lib.hid ih
    clear hA hfit ih
    unfold exAgg
    dsimp only [Ex.kind, Ex.n, Ex.name, Ex.sub]
    unfold maxLen at hs
    go_enter Try.func20, Try.ntmps20
    go_wp2_with fail
    have HE0 := Lib.hid (heap_alloc_new w (.cells #[.int .i64 k, .int .i32 n, .string ⟨m.toArray⟩, .slice A s.length cap] 43))
    go_loopw [5, 6] (fun n' i wr => ∃ j t : Nat, j ≤ s.length ∧ i = .int .i64 j ∧ n' = .int .i64 (t : Nat) ∧ t ≤ most ∧ Hid (t = min (1 + sizeTo s j) most) ∧ Below w.heap.size w wr ∧ wr.cell? ⟨w.heap.size, 3, none⟩ = some (.slice A s.length cap) ∧ w.heap.size < wr.heap.size) (fun _ i _ => s.length - (intOf i).toNat)
    case atStart => exact ⟨0, 1, Nat.zero_le _, rfl, rfl, h1, by unfold RowKit.Hid; rw [sizeTo_zero]; omega, (Below.refl _ _).alloc (Nat.le_refl _) _, by simp [go_sem], by simp⟩
    case round =>
      obtain ⟨j, t, hj, rfl, rfl, htm, HT, hb, e3, hz⟩ := hrel
      by_cases hlt : j < s.length
      · obtain ⟨b, off, A', c', rfl, hbl, c0, c1, c2, c3, hx⟩ := HA.out.in_ hb j hlt
        by_cases hbr : most ≤ t
        · have HE : Hid (t = min (1 + sizes s) most) := by
            have := HT.out; have := sizeTo_le s j
            unfold RowKit.Hid; omega
          clear hx
          go_wp2_with fail
          go_ret
          exact ⟨ret_int (by rw [HE.out]), hb⟩
        · have HD := Lib.hid (sizeTo_succ hlt)
          have HFX := Lib.hid (HF.out.mem (List.getElem_mem hlt))
          have hp := size_pos (s[j]'hlt)
          have ht1 : 1 ≤ t := by have := HT.out; omega
          generalize hy : s[j]'hlt = y at *
          have HX := Lib.hid hx
          have hm' : ((most - t : Nat) : Int) = (most : Int) - (t : Int) := by omega
          have hc1 := fun W h => IH.out y (most - t) (by omega) (by omega) (by omega) A' c' W h HFX.out
          rw [hm'] at hc1
          have HC := Lib.hid hc1
          obtain ⟨r, hr⟩ : ∃ r, r = min (size y) (most - t) := ⟨_, rfl⟩
          have hrl : r ≤ most - t := by omega
          rw [← hr] at HC
          have HR := Lib.hid hr
          clear hx hy hc1 hm' hr
          go_wp2_with fail
          refine (HC.out _ HX.out).mono ?_
          rintro e w1 ⟨rfl, hb1⟩
          have HB1 := Lib.hid (hb.trans (hb1.mono (by omega)))
          have e3' := (hb1.cell (p := ⟨w.heap.size, 3, none⟩) hz).trans e3
          have hz' := Nat.lt_of_lt_of_le hz hb1.size
          clear hb1
          go_wp2_with fail
          go_roundw
          case rel => exact ⟨j + 1, t + r, by omega, by go_num, by go_num, by omega, by have := HT.out; have := HR.out; unfold RowKit.Hid; rw [HD.out]; omega, HB1.out, e3', hz'⟩
          case measure => simp [intOf]; omega
      · obtain rfl : j = s.length := by omega
        have HE : Hid (t = min (1 + sizes s) most) := by
          have := HT.out
          rw [sizeTo_all] at this
          exact this
        go_wp2_with fail
        go_ret
        exact ⟨ret_int (by rw [HE.out]), hb⟩
set_option maxHeartbeats 4000000 in
theorem refdeep_any (B : Nat → Prop) : ∀ (c : Nat) (x : Ex) (most : Nat), most ≤ c → 1 ≤ most → c ≤ 1000000 → ∀ (A : Option Addr) (cap : Nat) (w : World), At w B x A → Fit x →
    Calls Try.prog 59 #[exAgg x A cap, .int .i64 (most : Int)] w fun e w' => e = .returned (.int .i64 (min (depth x) most : Nat)) ∧ Below w.heap.size w w' := by
  intro c
  induction c with
  | zero => intro x most h1 h2; omega
  | succ c ih =>
    intro x most hc h1 hlim A cap w hA hfit
    obtain ⟨k, n, m, s⟩ := x
    rw [at_eq] at hA
    rw [fit_eq] at hfit
    rw [depth_eq]
    have HA := Lib.hid hA
    have hs := hfit.2.2.1
    have HF := Lib.hid hfit.2.2.2
    have IH := Lib.hid ih
    clear hA hfit ih
    unfold exAgg
    dsimp only [Ex.kind, Ex.n, Ex.name, Ex.sub]
    unfold maxLen at hs
    by_cases hm1 : most ≤ 1
    · have HE : Hid (min (depths s + 1) most = 1) := by unfold RowKit.Hid; omega
      go_enter Try.func59, Try.ntmps59
      go_wp2_with fail
      go_ret
      exact ⟨ret_int (by rw [HE.out]; rfl), (Below.refl _ _).alloc (Nat.le_refl _) _⟩
    · go_enter Try.func59, Try.ntmps59
      go_wp2_with fail
      go_loopw [5, 6] (fun n' i wr => ∃ j t : Nat, j ≤ s.length ∧ i = .int .i64 j ∧ n' = .int .i64 (t : Nat) ∧ t ≤ most - 1 ∧ Hid (t = min (depthTo s j) (most - 1)) ∧ Below w.heap.size w wr ∧ wr.cell? ⟨w.heap.size, 3, none⟩ = some (.slice A s.length cap) ∧ w.heap.size < wr.heap.size) (fun _ i _ => s.length - (intOf i).toNat)
      case atStart => exact ⟨0, 0, Nat.zero_le _, rfl, rfl, by omega, by unfold RowKit.Hid; rw [depthTo_zero]; omega, (Below.refl _ _).alloc (Nat.le_refl _) _, by simp [go_sem], by simp⟩
      case round =>
        obtain ⟨j, t, hj, rfl, rfl, htm, HT, hb, e3, hz⟩ := hrel
        by_cases hlt : j < s.length
        · obtain ⟨b, off, A', c', rfl, hbl, c0, c1, c2, c3, hx⟩ := HA.out.in_ hb j hlt
          have HD := Lib.hid (depthTo_succ hlt)
          have HFX := Lib.hid (HF.out.mem (List.getElem_mem hlt))
          generalize hy : s[j]'hlt = y at *
          have HX := Lib.hid hx
          have hm' : ((most - 1 : Nat) : Int) = (most : Int) - 1 := by omega
          have hc1 := fun W h => IH.out y (most - 1) (by omega) (by omega) (by omega) A' c' W h HFX.out
          rw [hm'] at hc1
          have HC := Lib.hid hc1
          obtain ⟨r, hr⟩ : ∃ r, r = min (depth y) (most - 1) := ⟨_, rfl⟩
          have hrl : r ≤ most - 1 := by omega
          rw [← hr] at HC
          have HR := Lib.hid hr
          clear hx hy hc1 hm' hr
          by_cases hgt : t < r
          all_goals
            go_wp2_with fail
            refine (HC.out _ HX.out).mono ?_
            rintro e w1 ⟨rfl, hb1⟩
            have HB1 := Lib.hid (hb.trans (hb1.mono (by omega)))
            have e3' := (hb1.cell (p := ⟨w.heap.size, 3, none⟩) hz).trans e3
            have hz' := Nat.lt_of_lt_of_le hz hb1.size
            clear hb1
            go_wp2_with fail
            go_roundw
            case rel => first
              | exact ⟨j + 1, r, by omega, by go_num, by go_num, by omega, by have := HT.out; have := HR.out; unfold RowKit.Hid; rw [HD.out]; omega, HB1.out, e3', hz'⟩
              | exact ⟨j + 1, t, by omega, by go_num, by go_num, by omega, by have := HT.out; have := HR.out; unfold RowKit.Hid; rw [HD.out]; omega, HB1.out, e3', hz'⟩
            case measure => simp [intOf]; omega
        · obtain rfl : j = s.length := by omega
          have HE : Hid (t + 1 = min (depths s + 1) most) := by
            have := HT.out
            rw [depthTo_all] at this
            unfold RowKit.Hid; omega
          go_wp2_with fail
          go_ret
          exact ⟨ret_int (by rw [← HE.out]; rfl), hb⟩
end Go.Proofs.Ytilkilffkjhhbaa
