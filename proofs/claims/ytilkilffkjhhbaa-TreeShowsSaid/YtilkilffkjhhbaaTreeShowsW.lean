/-
  Of any expression: what is right, and what is written, is as the document says.
-/
import Derived.Test.YtilkilffkjhhbaaTreeShowsR
import Derived.Test.YtilkilffkjhhbaaTrShow
import Derived.Test.YtilkilffkjhhbaaTrQc
import Derived.Test.YtilkilffkjhhbaaTrA
namespace Go.Proofs.Ytilkilffkjhhbaa
set_option maxRecDepth 20000
set_option linter.unusedVariables false
open Go.RowKit Tr Mem

set_option maxHeartbeats 4000000 in
theorem treeShows_walk (w : World) (x : Ex) (A : Option Addr) (c : Nat) (hw : At w (fun _ => True) x A ∧ Fit x) :
    Calls Try.prog 7 #[exAgg x A c] w fun e w' => e = .returned (.bool true) ∧ Below w.heap.size w w' := by
  obtain ⟨hA, hfit⟩ := hw
  have HA := Lib.hid hA
  have HW0 : Hid (∀ V, Below w.heap.size w (w.alloc V)) := fun V => (Below.refl _ _).alloc (Nat.le_refl _) V
  have HPT := Lib.hid (fun W h => refparts_any (fun _ => True) 400 x 400 (Nat.le_refl _) (by decide) (by decide) A c W h hfit)
  have HR1 := Lib.hid (fun W h => right_any x (fun _ => True) A c W h hfit)
  have HR2 := Lib.hid (fun W h => refright_any x (fun _ => True) A c W h hfit)
  have HS1 := Lib.hid (fun W h => tshow_any x (fun _ => True) A c W h hfit)
  have HS2 := Lib.hid (fun W h => refshow_any x (fun _ => True) A c W h hfit)
  have hbig : 400 ≤ size x → right x = 3 := fun h => by unfold right; rw [if_pos (by omega)]
  have hsm : (showT x).2 = right x := by unfold showT; split <;> simp_all
  rw [hsm] at HS1 HS2
  generalize (showT x).1 = tx at *
  generalize right x = q at *
  obtain ⟨mn, hmn⟩ : ∃ m, m = min (size x) 400 := ⟨_, rfl⟩
  rw [← hmn] at HPT
  unfold exAgg at *
  by_cases hge : 400 ≤ mn
  · obtain rfl := hbig (by omega)
    clear hA hfit hbig hsm hmn HS1 HS2 HR2
    go_enter Try.func7, Try.ntmps7
    go_wp2_with fail
    refine (HPT.out _ (HA.out.below (HW0.out _) (Nat.le_refl _))).mono ?_
    rintro e w1 ⟨rfl, hb1⟩
    have hb2 := (HW0.out (.cells #[.int .i64 x.kind, .int .i32 x.n, .string ⟨x.name.toArray⟩, .slice A x.sub.length c] 43)).trans (hb1.mono (by simp))
    have HB1 := Lib.hid hb2
    have HA1 := Lib.hid (HA.out.below hb2 (Nat.le_refl _))
    obtain ⟨k0, k1, k2, k3, -⟩ := row4 (row4_of hb1)
    clear hb1 hb2
    go_wp2_with fail
    refine (HR1.out _ HA1.out).mono ?_
    rintro e w2 ⟨rfl, hb2⟩
    have HB2 := Lib.hid (HB1.out.trans (hb2.mono HB1.out.size))
    clear hb2
    go_wp2_with fail
    refine (known_any _).mono ?_
    rintro e w3 ⟨rfl, hb3⟩
    have HB3 := Lib.hid (HB2.out.trans (hb3.mono HB2.out.size))
    clear hb3
    go_wp2_with fail
    go_ret
    exact ⟨rfl, HB3.out⟩
  · clear hA hfit hbig hsm hmn
    go_enter Try.func7, Try.ntmps7
    go_wp2_with fail
    refine (HPT.out _ (HA.out.below (HW0.out _) (Nat.le_refl _))).mono ?_
    rintro e w1 ⟨rfl, hb1⟩
    have hb2 := (HW0.out (.cells #[.int .i64 x.kind, .int .i32 x.n, .string ⟨x.name.toArray⟩, .slice A x.sub.length c] 43)).trans (hb1.mono (by simp))
    have HB1 := Lib.hid hb2
    have HA1 := Lib.hid (HA.out.below hb2 (Nat.le_refl _))
    have HX1 := Lib.hid (row4_of hb1)
    have hs1 : w.heap.size < w1.heap.size := Nat.lt_of_lt_of_le (by simp) hb1.size
    obtain ⟨k0, k1, k2, k3, -⟩ := row4 HX1.out
    clear hb1 hb2
    go_wp2_with fail
    refine (HS1.out _ HA1.out).mono ?_
    rintro e w2 ⟨rfl, hb2⟩
    have HX2 := Lib.hid ((hb2.block _ hs1).trans HX1.out)
    have HB2 := Lib.hid (HB1.out.trans (hb2.mono HB1.out.size))
    have HA2 := Lib.hid (HA1.out.below hb2 (Nat.le_refl _))
    have hs2 : w.heap.size < w2.heap.size := Nat.lt_of_lt_of_le hs1 hb2.size
    clear hb2 k0 k1 k2 k3
    obtain ⟨k0, k1, k2, k3, -⟩ := row4 HX2.out
    go_wp2_with fail
    refine (HS2.out _ HA2.out).mono ?_
    rintro e w3 ⟨rfl, hb3⟩
    have HX3 := Lib.hid ((hb3.block _ hs2).trans HX2.out)
    have HB3 := Lib.hid (HB2.out.trans (hb3.mono HB2.out.size))
    have HA3 := Lib.hid (HA2.out.below hb3 (Nat.le_refl _))
    clear hb3 k0 k1 k2 k3
    obtain ⟨k0, k1, k2, k3, -⟩ := row4 HX3.out
    go_upto_region 5 with (fail)
    refine wp_region_any (by kernel_rfl) ?_
    refine wpAny_ops (ops' := tshowsOps) (by kernel_rfl) ?_
    refine tshowsRegion _ _ (by simp) w.heap.size tx q x A c k0 k1 k2 k3 (fun W h => HR1.out W (HA3.out.below h (Nat.le_refl _))) (fun W h => HR2.out W (HA3.out.below h (Nat.le_refl _))) rfl rfl rfl rfl rfl ?_
    intro wq hbq
    have HBQ := Lib.hid (HB3.out.trans (hbq.mono HB3.out.size))
    simp only [tshowsSlots, List.foldl_cons, List.foldl_nil]
    simp only [tshowsVal]
    simp only [Act.put, List.setIfInBounds_toArray, List.set_cons_zero, List.set_cons_succ]
    go_wp2_with fail
    go_ret
    exact ⟨rfl, HBQ.out⟩
end Go.Proofs.Ytilkilffkjhhbaa
