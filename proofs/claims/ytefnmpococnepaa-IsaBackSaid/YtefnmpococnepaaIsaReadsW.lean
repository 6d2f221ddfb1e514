/-
  The walk of the law IsaReads: the instruction at any place of any bytes.
-/
import Derived.Test.YtefnmpococnepaaOpenI
namespace Go.Proofs.Ytefnmpococnepaa
open Go.RowKit Mem

set_option maxHeartbeats 4000000 in
theorem isaReads_walk (w : World) (A : Option Addr) (c : Nat) (bs : List UInt8) (hw : BSrc w A c bs ∧ bs.length ≤ 140737488351232) (a : Int) (ha : (Lit.int .i64 a).wf = true) :
    Calls Try.prog 3 #[.slice A bs.length c, .int .i64 a] w fun e w' => e = .returned (.bool true) ∧ Below w.heap.size w w' := by
  obtain ⟨hA, hn⟩ := hw
  obtain ⟨ha1, ha2⟩ := wf64 ha
  have HA := Lib.hid hA
  clear hA ha
  go_enter Try.func3, Try.ntmps3
  go_wp2_with fail
  refine (wlent bs A c _ HA.out hn).mono ?_
  rintro e w1 ⟨A1, c1, rfl, hl1, hb1⟩
  have HL1 := Lib.hid hl1
  have HB1 := Lib.hid hb1
  clear hl1 hb1
  go_wp2_with fail
  refine (isaread bs A1 c1 a _ HL1.out.at_ (by omega) ha1 ha2).mono ?_
  rintro e w2 ⟨rfl, hb2⟩
  have HL2 := Lib.hid (HL1.out.below hb2 (Nat.le_refl _))
  have HB2 := Lib.hid (HB1.out.trans (hb2.mono HB1.out.size))
  have HA2 := Lib.hid (HA.out.at_.below HB2.out (Nat.le_refl _))
  clear hb2
  have HI := Lib.hid (fun W h => refread bs A c a W h (by omega) ha1 ha2)
  generalize readAt bs a = r at *
  obtain ⟨⟨op, n⟩, t2, er⟩ := r
  unfold insAgg at *
  dsimp only at *
  go_wp2_with fail
  refine (HI.out _ ?_).mono ?_
  · exact HA2.out.below ((Below.refl _ _).alloc (Nat.le_refl _) _) (Nat.le_refl _)
  rintro e w3 ⟨rfl, hb3⟩
  have d0 := hb3.cell (p := ⟨w2.heap.size, 0, none⟩) (by simp)
  have d1 := hb3.cell (p := ⟨w2.heap.size, 1, none⟩) (by simp)
  simp [go_sem] at d0 d1
  have hb23 := (((Below.refl w2.heap.size _).alloc (Nat.le_refl _) _).trans (hb3.mono (by simp)))
  have HL3 := Lib.hid (HL2.out.below hb23 (Nat.le_refl _))
  have HB3 := Lib.hid (HB2.out.trans (hb23.mono HB2.out.size))
  have HA3 := Lib.hid (HA2.out.below hb23 (Nat.le_refl _))
  have hz : w2.heap.size < w3.heap.size := by have := hb3.size; simp at this; omega
  clear hb3 hb23 HI
  go_wp2_with fail
  refine (wkept bs A1 A c1 c w.heap.size _ ?_ ?_).mono ?_
  · exact HL3.out.below ((Below.refl _ _).alloc (Nat.le_refl _) _) (Nat.le_refl _)
  · exact HA3.out.below ((Below.refl _ _).alloc (Nat.le_refl _) _) (Nat.le_refl _)
  rintro e w4 ⟨rfl, rfl⟩
  go_wp2_with fail
  refine (known_any _).mono ?_
  rintro e w5 ⟨rfl, hb5⟩
  go_wp2_with fail
  go_ret
  exact ⟨rfl, (HB3.out.alloc HB3.out.size _).trans (hb5.mono (by have := HB3.out.size; simp; omega))⟩
end Go.Proofs.Ytefnmpococnepaa
