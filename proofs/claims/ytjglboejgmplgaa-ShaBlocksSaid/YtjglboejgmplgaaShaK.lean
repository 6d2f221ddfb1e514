/-
  What must come of the fixed calls of the layer sha: its law's known().
-/
import Derived.Test.YtjglboejgmplgaaShaT
import Derived.Lib.SmallJoins
namespace Go.Proofs.Ytjglboejgmplgaa
open Go.RowKit Mem

theorem unhex_00 (w : World) : Calls Try.prog 21 #[.string ⟨#[48, 48]⟩] w fun e w' => e = .returned (.tuple #[.agg (bcells (List.replicate 32 0)).toArray, .int .i64 4]) ∧ Below w.heap.size w w' := by
  have h := shaunhex [48, 48] w (by decide)
  have e : unhexV [48, 48] = (List.replicate 32 0, 4) := unhexV_bad (by decide)
  rw [e] at h
  exact h
theorem sum_abc (w : World) (A : Option Addr) (c : Nat) (hA : BSrc w A c abc) (hc : 3 ≤ c) (hm : c ≤ 140737488351232) :
    Calls Try.prog 19 #[.slice A 3 c] w fun e w' => e = .returned (.agg (bcells (sumOf abc)).toArray) ∧ Below w.heap.size w w' := shasum shastep_ok abc A c w hA hc (by decide) (by omega)
theorem hex_abc (w : World) : Calls Try.prog 23 #[.agg (bcells (sumOf abc)).toArray] w fun e w' => e = .returned (.string ⟨abcHex.toArray⟩) ∧ Below w.heap.size w w' := by
  have h := shahex (sumOf abc) w (sumOf_len _)
  rw [abc_hex] at h
  exact h
set_option maxRecDepth 100000 in
set_option maxHeartbeats 4000000 in
theorem known_any (w : World) : Calls Try.prog 9 #[] w fun e w' => e = .returned (.bool true) ∧ Below w.heap.size w w' := by
  have hi : (Try.prog.info? 37).map (·.size) = some 32 := by kernel_rfl
  have HI := Lib.hid hi
  have HSP : Hid ((bcells (List.replicate 32 0)).toArray.size = 32) := by unfold RowKit.Hid; rw [List.size_toArray, bcells_length]; rfl
  have HU := Lib.hid unhex_00
  clear hi
  have kc := fun (w : World) (C : Array Value) (n c g : Nat) (hg : g = w.heap.size) => Joins.run_convert_bytes_const_at (P := Try.prog) w 24 5 C n c g hg Try.underlying24 Try.underlying5
  generalize List.replicate 32 (0 : UInt8) = pl at *
  go_enter Try.func9, Try.ntmps9
  go_wp2_with fail
  refine (HU.out _).mono ?_
  rintro e w1 ⟨rfl, hb1⟩
  have HB1 := Lib.hid hb1
  clear hb1
  go_wp2_with (refine wpList_store_row rfl 37 (.tmp 1) (.tmp 5) rfl w1.heap.size (bcells pl).toArray rfl rfl _ _ (heap_alloc_new _ _) (by rw [HI.out, HSP.out]) (by rw [HSP.out]; rfl) (cells_one32 _) ?_)
  refine (sum_abc _ (some ⟨w1.heap.size + 1, 0, none⟩) 3 (src_new _ 5 (3, 4) abc 3 _ rfl (by simp)) (Nat.le_refl _) (by decide)).mono ?_
  rintro e w2 ⟨rfl, hb2⟩
  have HB2 : Hid (Below w.heap.size w w2) := ((below_setRow (HB1.out.alloc HB1.out.size _) HB1.out.size).alloc (by have := HB1.out.size; simp; omega) _).trans (hb2.mono (by have := HB1.out.size; simp; omega))
  have c2 : w2.cell? ⟨w1.heap.size, 0, none⟩ = w2.cell? ⟨w1.heap.size, 0, none⟩ := rfl
  clear hb2 kc c2
  go_wp2_with fail
  refine (hex_abc _).mono ?_
  rintro e w3 ⟨rfl, hb3⟩
  have HB3 := Lib.hid (HB2.out.trans (hb3.mono HB2.out.size))
  clear hb3
  have hab : (⟨abcHex.toArray⟩ : ByteArray) = ⟨#[98, 97, 55, 56, 49, 54, 98, 102, 56, 102, 48, 49, 99, 102, 101, 97, 52, 49, 52, 49, 52, 48, 100, 101, 53, 100, 97, 101, 50, 50, 50, 51, 98, 48, 48, 51, 54, 49, 97, 51, 57, 54, 49, 55, 55, 97, 57, 99, 98, 52, 49, 48, 102, 102, 54, 49, 102, 50, 48, 48, 49, 53, 97, 100]⟩ := rfl
  rw [hab]
  clear hab
  go_wp2_with fail
  refine (shafirst _).mono ?_
  rintro e w4 ⟨rfl, hb4⟩
  have HB4 := Lib.hid (HB3.out.trans (hb4.mono HB3.out.size))
  clear hb4
  have ix : ∀ wx, (Instr.index 23 (.agg (wcells (Sh.stL Sh.first)).toArray) (.int .i64 0)).run Try.prog wx = .ok (.int .u32 1779033703) wx := fun wx => run_index_ws wx _ 0 _ (by decide) rfl
  go_wp2_with fail
  go_ret
  exact ⟨rfl, HB4.out⟩
end Go.Proofs.Ytjglboejgmplgaa
