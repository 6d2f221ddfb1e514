/-
  Whether two images are alike, by the reference; whether one is light.
-/
import Derived.Test.YtjhopgmionpkoaaIm3
import Derived.BigQuiet
import Derived.Deep.QuietTactic
namespace Go.Proofs.Ytjhopgmionpkoaa
set_option maxRecDepth 20000
open Go.RowKit Mem

def IntsAt (w : World) (A : Option Addr) (l : List Int) : Prop := ∀ k (h : k < l.length), ∃ b off, A = some ⟨b, off, none⟩ ∧ w.cell? ⟨b, off + k, none⟩ = some (.int .i32 (l[k]'h))
theorem ints_src {w : World} {A : Option Addr} {c : Nat} {l : List Int} (h : Src w A l.length c (l.map fun n => .int .i32 n) 1) : IntsAt w A l := by
  intro k hk
  obtain ⟨b, off, rfl⟩ := src_spot h (by simp; omega)
  exact ⟨b, off, rfl, src_at h (by rw [List.getElem?_map, List.getElem?_eq_getElem hk]; rfl)⟩
theorem IntsAt.drewN {w : World} {A : Option Addr} {l : List Int} (h : IntsAt w A l) (n : Nat) : IntsAt (w.drewN n) A l := h
set_option maxHeartbeats 4000000 in
theorem refints (l : List Int) (A A' : Option Addr) (c c' : Nat) (w : World) (hA : IntsAt w A l) (hA' : IntsAt w A' l) (hn : l.length ≤ 4611686018427387904) :
    Calls Try.prog 35 #[.slice A l.length c, .slice A' l.length c'] w fun e w' => e = .returned (.bool true) ∧ ∃ n, w' = w.drewN n := by
  have HA := Lib.hid hA
  have HA' := Lib.hid hA'
  clear hA hA'
  have hne : ((l.length : Int) != l.length) = false := by simp
  go_enter Try.func35, Try.ntmps35
  go_wp2_with fail
  clear hne
  go_loopw [5] (fun i wr => ∃ (k n : Nat), k ≤ l.length ∧ i = .int .i64 k ∧ wr = w.drewN n) (fun i _ => l.length - (intOf i).toNat)
  case atStart => exact ⟨0, 0, Nat.zero_le _, rfl, rfl⟩
  case round =>
    obtain ⟨k, n, hk, rfl, rfl⟩ := hrel
    by_cases hlt : k < l.length
    · obtain ⟨b, off, rfl, c0⟩ := HA.out k hlt
      obtain ⟨b', off', rfl, d0⟩ := HA'.out k hlt
      have hr0 : (0 : Int) ≤ k := by omega
      have hr1 : (k : Int) < (l.length : Int) := by omega
      go_wp2_with fail
      go_quiet (fail)
      go_wp2_with fail
      go_roundw
      case rel => exact ⟨k + 1, _, by omega, by go_num, rfl⟩
      case measure => simp [intOf]; omega
    · obtain rfl : k = l.length := by omega
      go_wp2_with fail
      go_ret
      exact ⟨rfl, _, rfl⟩
set_option maxRecDepth 100000 in
set_option maxHeartbeats 8000000 in
theorem refimsame (m : Im) (A1 A2 A3 B1 B2 B3 : Option Addr) (c1 c2 c3 d1 d2 d3 : Nat) (w : World) (hA : ImAt w m A1 A2 A3 c1 c2 c3) (hB : ImAt w m B1 B2 B3 d1 d2 d3) (hl : ImLen m) :
    Calls Try.prog 18 #[imAgg m A1 A2 A3 c1 c2 c3, imAgg m B1 B2 B3 d1 d2 d3] w fun e w' => e = .returned (.bool true) ∧ Below w.heap.size w w' := by
  have HA := Lib.hid hA
  have HB := Lib.hid hB
  have HBF : Hid (∀ X Y, Below w.heap.size w ((w.alloc X).alloc Y)) := fun X Y => ((Below.refl _ _).alloc (Nat.le_refl _) X).alloc (by simp) Y
  have HI := Lib.hid (fun W h1 h2 => refints m.first A1 B1 c1 d1 W h1 h2 (by have := hl.first; omega))
  have HS := Lib.hid (fun W h1 h2 => insame m.step A2 B2 c2 d2 W h1 h2 (by have := hl.step; omega))
  have HM := Lib.hid (fun W h1 h2 => insame m.move A3 B3 c3 d3 W h1 h2 (by have := hl.move; omega))
  clear hA hB hl
  unfold imAgg
  go_enter Try.func18, Try.ntmps18
  go_wp2_with fail
  obtain ⟨W0, hW0⟩ : ∃ W0, W0 = (w.alloc (.cells #[.int .u32 m.ver, .int .u32 m.frm, .int .i64 m.el, .int .i64 m.fr.sl, .int .i64 m.fr.ol, .int .i64 m.fr.nw, .int .i64 m.fr.is, .int .i64 m.fr.os, .slice A1 m.first.length c1, .slice A2 m.step.length c2, .slice A3 m.move.length c3, .int .i64 m.sf, .int .i64 m.mf] 28)).alloc (.cells #[.int .u32 m.ver, .int .u32 m.frm, .int .i64 m.el, .int .i64 m.fr.sl, .int .i64 m.fr.ol, .int .i64 m.fr.nw, .int .i64 m.fr.is, .int .i64 m.fr.os, .slice B1 m.first.length d1, .slice B2 m.step.length d2, .slice B3 m.move.length d3, .int .i64 m.sf, .int .i64 m.mf] 28) := ⟨_, rfl⟩
  rw [← hW0]
  have HA0 : Hid (W0.heap[w.heap.size]? = some (.cells #[.int .u32 m.ver, .int .u32 m.frm, .int .i64 m.el, .int .i64 m.fr.sl, .int .i64 m.fr.ol, .int .i64 m.fr.nw, .int .i64 m.fr.is, .int .i64 m.fr.os, .slice A1 m.first.length c1, .slice A2 m.step.length c2, .slice A3 m.move.length c3, .int .i64 m.sf, .int .i64 m.mf] 28 (0, 0))) := by unfold RowKit.Hid; rw [hW0]; exact heap_alloc2_old _ _ _
  have HB0 : Hid (W0.heap[w.heap.size + 1]? = some (.cells #[.int .u32 m.ver, .int .u32 m.frm, .int .i64 m.el, .int .i64 m.fr.sl, .int .i64 m.fr.ol, .int .i64 m.fr.nw, .int .i64 m.fr.is, .int .i64 m.fr.os, .slice B1 m.first.length d1, .slice B2 m.step.length d2, .slice B3 m.move.length d3, .int .i64 m.sf, .int .i64 m.mf] 28 (0, 0))) := by unfold RowKit.Hid; rw [hW0]; exact heap_alloc2_new _ _ _
  have HW0 : Hid (Below w.heap.size w W0) := by unfold RowKit.Hid; rw [hW0]; exact HBF.out _ _
  clear hW0
  refine (HI.out W0 (ints_src (HA.out.below HW0.out (Nat.le_refl _)).first) (ints_src (HB.out.below HW0.out (Nat.le_refl _)).first)).mono ?_
  rintro e w1 ⟨rfl, nq, hw⟩
  have hb1 : Below W0.heap.size W0 w1 := by rw [hw]; exact below_drewN (Below.refl _ _) nq
  have HA1 := Lib.hid ((hb1.block _ (Array.getElem?_eq_some_iff.1 HA0.out).1).trans HA0.out)
  have HB1 := Lib.hid ((hb1.block _ (Array.getElem?_eq_some_iff.1 HB0.out).1).trans HB0.out)
  have HW1 := Lib.hid (HW0.out.trans (hb1.mono HW0.out.size))
  clear hw hb1 HA0 HB0 HW0
  have ca9 : w1.cell? ⟨w.heap.size, 9, none⟩ = some (.slice A2 m.step.length c2) := cell_of_row _ _ 9 _ _ (0, 0) HA1.out
  have cb9 : w1.cell? ⟨w.heap.size + 1, 9, none⟩ = some (.slice B2 m.step.length d2) := cell_of_row _ _ 9 _ _ (0, 0) HB1.out
  go_wp2_with fail
  clear ca9 cb9
  refine (HS.out w1 (ISrc.at_ (HA.out.below HW1.out (Nat.le_refl _)).step) (ISrc.at_ (HB.out.below HW1.out (Nat.le_refl _)).step)).mono ?_
  rintro e w2 ⟨rfl, nq, hw⟩
  have hb2 : Below w1.heap.size w1 w2 := by rw [hw]; exact below_drewN (Below.refl _ _) nq
  have HA2 := Lib.hid ((hb2.block _ (Array.getElem?_eq_some_iff.1 HA1.out).1).trans HA1.out)
  have HB2 := Lib.hid ((hb2.block _ (Array.getElem?_eq_some_iff.1 HB1.out).1).trans HB1.out)
  have HW2 := Lib.hid (HW1.out.trans (hb2.mono HW1.out.size))
  clear hw hb2 HA1 HB1 HW1
  have ca10 : w2.cell? ⟨w.heap.size, 10, none⟩ = some (.slice A3 m.move.length c3) := cell_of_row _ _ 10 _ _ (0, 0) HA2.out
  have cb10 : w2.cell? ⟨w.heap.size + 1, 10, none⟩ = some (.slice B3 m.move.length d3) := cell_of_row _ _ 10 _ _ (0, 0) HB2.out
  go_wp2_with fail
  clear ca10 cb10
  refine (HM.out w2 (ISrc.at_ (HA.out.below HW2.out (Nat.le_refl _)).move) (ISrc.at_ (HB.out.below HW2.out (Nat.le_refl _)).move)).mono ?_
  rintro e w3 ⟨rfl, nq, hw⟩
  have hb3 : Below w2.heap.size w2 w3 := by rw [hw]; exact below_drewN (Below.refl _ _) nq
  have HA3 := Lib.hid ((hb3.block _ (Array.getElem?_eq_some_iff.1 HA2.out).1).trans HA2.out)
  have HB3 := Lib.hid ((hb3.block _ (Array.getElem?_eq_some_iff.1 HB2.out).1).trans HB2.out)
  have HW3 := Lib.hid (HW2.out.trans (hb3.mono HW2.out.size))
  clear hw hb3 HA2 HB2 HW2
  have ca11 : w3.cell? ⟨w.heap.size, 11, none⟩ = some (.int .i64 m.sf) := cell_of_row _ _ 11 _ _ (0, 0) HA3.out
  have cb11 : w3.cell? ⟨w.heap.size + 1, 11, none⟩ = some (.int .i64 m.sf) := cell_of_row _ _ 11 _ _ (0, 0) HB3.out
  have ca12 : w3.cell? ⟨w.heap.size, 12, none⟩ = some (.int .i64 m.mf) := cell_of_row _ _ 12 _ _ (0, 0) HA3.out
  have cb12 : w3.cell? ⟨w.heap.size + 1, 12, none⟩ = some (.int .i64 m.mf) := cell_of_row _ _ 12 _ _ (0, 0) HB3.out
  go_wp2_with fail
  clear ca11 cb11 ca12 cb12
  go_ret
  exact ⟨rfl, HW3.out⟩
set_option maxHeartbeats 4000000 in
theorem imlight (m : Im) (A1 A2 A3 : Option Addr) (c1 c2 c3 : Nat) (w : World) :
    Calls Try.prog 9 #[imAgg m A1 A2 A3 c1 c2 c3] w fun e w' => e = .returned (.bool (decide (m.step.length ≤ 2000 ∧ m.move.length ≤ 2000 ∧ m.first.length ≤ 200))) ∧ Below w.heap.size w w' := by
  have HBF : Hid (∀ X, Below w.heap.size w (w.alloc X)) := fun X => (Below.refl _ _).alloc (Nat.le_refl _) X
  unfold imAgg
  by_cases h1 : m.step.length ≤ 2000
  · have d1 : decide ((m.step.length : Int) ≤ 2000) = true := by simp; omega
    by_cases h2 : m.move.length ≤ 2000
    · have d2 : decide ((m.move.length : Int) ≤ 2000) = true := by simp; omega
      by_cases h3 : m.first.length ≤ 200
      · have HD : Hid (decide (m.step.length ≤ 2000 ∧ m.move.length ≤ 2000 ∧ m.first.length ≤ 200) = true) := decide_eq_true ⟨h1, h2, h3⟩
        rw [HD.out]
        have d3 : decide ((m.first.length : Int) ≤ 200) = true := by simp; omega
        go_enter Try.func9, Try.ntmps9
        go_wp2_with fail
        go_ret
        exact ⟨rfl, HBF.out _⟩
      · have HD : Hid (decide (m.step.length ≤ 2000 ∧ m.move.length ≤ 2000 ∧ m.first.length ≤ 200) = false) := decide_eq_false (fun h => h3 h.2.2)
        rw [HD.out]
        have d3 : decide ((m.first.length : Int) ≤ 200) = false := by simp; omega
        go_enter Try.func9, Try.ntmps9
        go_wp2_with fail
        go_ret
        exact ⟨rfl, HBF.out _⟩
    · have HD : Hid (decide (m.step.length ≤ 2000 ∧ m.move.length ≤ 2000 ∧ m.first.length ≤ 200) = false) := decide_eq_false (fun h => h2 h.2.1)
      rw [HD.out]
      have d2 : decide ((m.move.length : Int) ≤ 2000) = false := by simp; omega
      go_enter Try.func9, Try.ntmps9
      go_wp2_with fail
      go_ret
      exact ⟨rfl, HBF.out _⟩
  · have HD : Hid (decide (m.step.length ≤ 2000 ∧ m.move.length ≤ 2000 ∧ m.first.length ≤ 200) = false) := decide_eq_false (fun h => h1 h.1)
    rw [HD.out]
    have d1 : decide ((m.step.length : Int) ≤ 2000) = false := by simp; omega
    go_enter Try.func9, Try.ntmps9
    go_wp2_with fail
    go_ret
    exact ⟨rfl, HBF.out _⟩
end Go.Proofs.Ytjhopgmionpkoaa
