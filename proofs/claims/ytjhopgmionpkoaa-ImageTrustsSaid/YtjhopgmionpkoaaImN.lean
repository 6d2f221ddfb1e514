/-
  What must come of the fixed calls of the layer image.
-/
import Derived.Test.YtjhopgmionpkoaaImK
import Derived.Test.YtjhopgmionpkoaaImM
namespace Go.Proofs.Ytjhopgmionpkoaa
set_option maxRecDepth 20000
open Go.RowKit Mem

def kIm : Im := ⟨1, 0, 0, ⟨0, 0, 0, 0, 0⟩, [], [], [], 0, 0⟩
def kBs : Ia.Bs := [77, 73, 68, 83, 1, 0, 0, 0, 0, 0, 0, 0, 0, 0, 0, 0, 0, 0, 0, 0, 0, 0, 0, 0, 0, 0, 0]
theorem k_chk : chk kIm = 0 := by decide +kernel
theorem k_laid : laidB kIm = kBs := by decide +kernel
theorem k_ok : ImOk kIm := ⟨by decide, by decide, fun n hn => (by cases hn), fun i hi => (by cases hi), fun i hi => (by cases hi)⟩
theorem k_enc : imEnc kIm = (kBs, 0) := by
  unfold imEnc
  rw [k_chk, k_laid, if_neg (by decide), if_neg (by decide)]
theorem k_parse : imParse kBs = (kIm, 0) := by
  have h := rd_laid (chk_fits k_chk k_ok) rfl
  rw [k_laid] at h
  unfold imParse
  rw [if_neg (by decide), h]
  dsimp only
  rw [k_chk, if_neg (by decide)]
theorem k_zero : chk Im.zero = 1 := by decide +kernel
theorem zero_ok : ImOk Im.zero := ⟨by decide, by decide, fun n hn => (by cases hn), fun i hi => (by cases hi), fun i hi => (by cases hi)⟩
theorem imAt_nil (w : World) (m : Im) (h1 : m.first = []) (h2 : m.step = []) (h3 : m.move = []) : ImAt w m none none none 0 0 0 := by
  refine ⟨?_, ?_, ?_⟩
  · rw [h1]; exact ⟨rfl, fun _ => ⟨rfl, rfl⟩, fun ad e => (by cases e)⟩
  · rw [h2]; exact ⟨rfl, fun _ => ⟨rfl, rfl⟩, fun ad e => (by cases e)⟩
  · rw [h3]; exact ⟨rfl, fun _ => ⟨rfl, rfl⟩, fun ad e => (by cases e)⟩
theorem kencode (w : World) : Calls Try.prog 11 #[.agg #[.int .u32 1, .int .u32 0, .int .i64 0, .int .i64 0, .int .i64 0, .int .i64 0, .int .i64 0, .int .i64 0, .slice none 0 0, .slice none 0 0, .slice none 0 0, .int .i64 0, .int .i64 0]] w fun e w' => ∃ A c, e = .returned (.tuple #[.slice A 27 c, .int .i64 0]) ∧ BSrc w' A c kBs ∧ 27 ≤ c ∧ Below w.heap.size w w' := by
  refine (imencode kIm none none none 0 0 0 w (imAt_nil w kIm rfl rfl rfl) ⟨by simp [kIm], by simp [kIm], by simp [kIm]⟩ k_ok).mono ?_
  rintro e w' ⟨A, c, rfl, hs, hc, hb⟩
  rw [k_enc] at hs hc ⊢
  exact ⟨A, c, rfl, hs, hc, hb⟩
theorem kparsed (A : Option Addr) (c : Nat) (w : World) (h : BSrc w A c kBs) (hc : 27 ≤ c) : Calls Try.prog 16 #[.slice A 27 c] w fun e w' => ∃ A1 A2 A3 c1 c2 c3, e = .returned (.tuple #[.agg #[.int .u32 1, .int .u32 0, .int .i64 0, .int .i64 0, .int .i64 0, .int .i64 0, .int .i64 0, .int .i64 0, .slice A1 0 c1, .slice A2 0 c2, .slice A3 0 c3, .int .i64 0, .int .i64 0], .int .i64 0]) ∧ Below w.heap.size w w' := by
  refine (imparse kBs A c w h.at_ hc (by decide)).mono ?_
  rintro e w' ⟨A1, A2, A3, c1, c2, c3, rfl, _, hb⟩
  rw [k_parse]
  exact ⟨A1, A2, A3, c1, c2, c3, rfl, hb⟩
theorem kchecked (w : World) : Calls Try.prog 13 #[.agg #[.int .u32 0, .int .u32 0, .int .i64 0, .int .i64 0, .int .i64 0, .int .i64 0, .int .i64 0, .int .i64 0, .slice none 0 0, .slice none 0 0, .slice none 0 0, .int .i64 0, .int .i64 0]] w fun e w' => e = .returned (.int .i64 1) ∧ Below w.heap.size w w' := by
  refine (imcheck Im.zero none none none 0 0 0 w (imAt_nil w Im.zero rfl rfl rfl) ⟨by simp [Im.zero], by simp [Im.zero], by simp [Im.zero]⟩ zero_ok).mono ?_
  rintro e w' ⟨rfl, hb⟩
  rw [k_zero]
  exact ⟨rfl, hb⟩
set_option maxRecDepth 100000 in
set_option maxHeartbeats 4000000 in
theorem imknown (w : World) : Calls Try.prog 10 #[] w fun e w' => e = .returned (.bool true) ∧ Below w.heap.size w w' := by
  go_enter Try.func10, Try.ntmps10
  go_wp2_with fail
  refine (kencode _).mono ?_
  rintro e w1 ⟨A, c, rfl, hs, hc, hb1⟩
  have HS1 := Lib.hid hs
  have HC1 := Lib.hid hc
  have HB1 := Lib.hid hb1
  clear hs hc hb1
  go_wp2_with fail
  refine (kparsed A c _ HS1.out HC1.out).mono ?_
  rintro e w2 ⟨A1, A2, A3, c1, c2, c3, rfl, hb2⟩
  have HB2 := Lib.hid (HB1.out.trans (hb2.mono HB1.out.size))
  clear hb2
  go_wp2_with fail
  refine (kchecked _).mono ?_
  rintro e w3 ⟨rfl, hb3⟩
  have HB3 := Lib.hid ((HB2.out.alloc HB2.out.size (.cells #[.int .u32 1, .int .u32 0, .int .i64 0, .int .i64 0, .int .i64 0, .int .i64 0, .int .i64 0, .int .i64 0, .slice A1 0 c1, .slice A2 0 c2, .slice A3 0 c3, .int .i64 0, .int .i64 0] 28)).trans (hb3.mono (by have := HB2.out.size; simp; omega)))
  clear hb3
  go_wp2_with fail
  go_ret
  exact ⟨rfl, HB3.out⟩
end Go.Proofs.Ytjhopgmionpkoaa
