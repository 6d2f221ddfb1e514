/-
  What must come of fixed calls of the package isa.
-/
import Derived.Test.YtefnmpococnepaaIsaH
namespace Go.Proofs.Ytefnmpococnepaa
open Go.RowKit Mem

theorem at_new (W : World) (bs : List UInt8) (t : TypeId) (cs : Array Value) (g : Nat) (hg : g = W.heap.size) (h : cs = (bcells bs).toArray) : BytesAt (W.alloc (.cells cs t)) (some ⟨g, 0, none⟩) bs := by
  subst h hg
  intro k hk
  refine ⟨W.heap.size, 0, rfl, ?_⟩
  rw [Nat.zero_add, (below_new (Below.refl _ _) k).1]
  simpa using bcells_at bs k hk
theorem k_bytes : Ia.bytesOf ⟨1, -2⟩ = [1, 254, 255, 255, 255] := by decide +kernel
theorem k_read : readAt [9, 1] 0 = (⟨9, 1⟩, 2, 0) := by kernel_rfl
theorem k_dec : Ia.decode [2, 5, 12] = ([], 9, 2) := by kernel_rfl
set_option maxHeartbeats 4000000 in
theorem known_any (w : World) : Calls Try.prog 14 #[] w fun e w' => e = .returned (.bool true) ∧ Below w.heap.size w w' := by
  go_enter Try.func14, Try.ntmps14
  go_wp2_with fail
  refine (isabytes_ok ⟨1, -2⟩ _ (by decide) (by decide) (by decide)).mono ?_
  rintro e w1 ⟨v, rfl, hown, hb1⟩
  rw [k_bytes] at hown
  have e5 : 1 + Ia.form 1 = 5 := by decide
  dsimp only at hown
  rw [e5] at hown
  obtain ⟨A, c, rfl⟩ := own_slice hown
  have HT := Lib.hid (BytesAt.of_own hown)
  have HB1 := Lib.hid hb1
  clear hown hb1
  go_wp2_with fail
  refine (isaread [9, 1] _ 2 0 _ (by exact at_new _ _ _ _ _ (by simp) rfl) (by decide) (by decide) (by decide)).mono ?_
  rintro e w2 ⟨rfl, hb2⟩
  rw [k_read]
  have HB2 := Lib.hid ((HB1.out.alloc HB1.out.size _).trans (hb2.mono (by have := HB1.out.size; simp; omega)))
  have HT2 := Lib.hid (HT.out.below ((Below.refl _ _).alloc (Nat.le_refl _) _ |>.trans (hb2.mono (by simp))) (Nat.le_refl _))
  clear hb2
  unfold insAgg
  go_wp2_with fail
  refine (isadecode [2, 5, 12] _ 3 _ (by exact at_new _ _ _ _ _ (by simp) rfl) (by decide)).mono ?_
  rintro e w3 ⟨v3, rfl, hown3, hb3⟩
  rw [k_dec]
  clear hown3
  have HB3 := Lib.hid (HB2.out.trans ((((Below.refl _ _).alloc (by exact Nat.le_trans HB2.out.size (Nat.le_refl _)) _).alloc (by have := HB2.out.size; simp; omega) _).trans (hb3.mono (by have := HB2.out.size; simp; omega))))
  have HT3 := HT2.out.below ((((Below.refl w2.heap.size _).alloc (Nat.le_refl _) _).alloc (by simp) _).trans (hb3.mono (by simp; omega))) (Nat.le_refl _)
  have c0 := hb3.cell (p := ⟨w2.heap.size, 0, none⟩) (by simp; omega)
  have c1 := hb3.cell (p := ⟨w2.heap.size, 1, none⟩) (by simp; omega)
  have cv : (convert 22 9 (.slice A 5 c)).run Try.prog w3 = .ok (.string ⟨#[1, 254, 255, 255, 255]⟩) w3 := conv_bytes w3 A c [1, 254, 255, 255, 255] HT3
  clear hb3 HT3
  simp [go_sem] at c0 c1
  go_wp2_with fail
  go_ret
  exact ⟨rfl, HB3.out⟩
end Go.Proofs.Ytefnmpococnepaa
