/-
  The walk of the law ShaApart: a digest hangs on its bytes alone.
-/
import Derived.Test.YtjglboejgmplgaaShaK
import Derived.Test.YtjglboejgmplgaaShaApartR
namespace Go.Proofs.Ytjglboejgmplgaa
open Go.RowKit Mem

def BArg (w : World) (A : Option Addr) (c : Nat) (bs : List UInt8) : Prop := BSrc w A c bs ∧ bs.length ≤ c ∧ c ≤ 140737488351232
set_option maxRecDepth 100000 in
set_option maxHeartbeats 4000000 in
theorem shaApart_walk (w : World) (A : Option Addr) (c : Nat) (b : List UInt8) (hA : BArg w A c b) (A' : Option Addr) (c' : Nat) (m : List UInt8) (hA' : BArg w A' c' m) :
    Calls Try.prog 8 #[.slice A b.length c, .slice A' m.length c'] w fun e w' => e = .returned (.bool true) ∧ Below w.heap.size w w' := by
  obtain ⟨hA1, hA2, hA3⟩ := hA
  obtain ⟨hM1, hM2, hM3⟩ := hA'
  by_cases h1 : b.length ≤ 16384
  · by_cases h2 : m.length ≤ 16384
    · obtain ⟨i0, hi, hi0, hi1, hi2⟩ := info_parts infoByte
      have HA := Lib.hid hA1
      have HM := Lib.hid hM1
      clear hA1 hM1
      go_enter Try.func8, Try.ntmps8
      go_wp2_with (at_builtin; refine wpList_app_any rfl (.tmp 16) (.tmp 17) 24 rfl w.heap.size 5 i0 (.int .u8 0) 1 1 Try.underlying24 hi hi0 hi1 hi2 rfl (by decide) (.slice none 0 0) 0 [] rfl (World.ownsRow_nil _ _ _ _) A b.length c (bcells b) rfl HA.out (bcells_one b) ?c3 ?c4 (Nat.le_refl _) ?_)
      case c3 => unfold maxLen; omega
      case c4 => omega
      intro v1 w1 hown1 hg1
      have HB1 : Hid (Below w.heap.size w w1) := below_of_grown hg1 (Nat.le_refl _) (fun g hg => by cases hg)
      try simp only [Nat.zero_add, List.nil_append] at hown1
      have HO1 : Hid (w1.ownsRow w.heap.size 5 1 v1 b.length (bcells b)) := hown1
      clear hown1 hg1
      go_wp2_with (at_builtin; refine wpList_app_any rfl (.tmp 19) (.tmp 20) 24 rfl w.heap.size 5 i0 (.int .u8 0) 1 1 Try.underlying24 hi hi0 hi1 hi2 rfl (by decide) v1 b.length (bcells b) rfl HO1.out A' m.length c' (bcells m) rfl (HM.out.below HB1.out (Nat.le_refl _)) (bcells_one m) ?d3 ?d4 HB1.out.size ?_)
      case d3 => unfold maxLen; omega
      case d4 => omega
      intro v2 w2 hown2 hg2
      have HB2 : Hid (Below w.heap.size w w2) := HB1.out.trans (below_of_grown hg2 HB1.out.size (fun g hg => (HO1.out.lt g hg).1))
      rw [← bcells_append] at hown2
      obtain ⟨A2, c2, rfl⟩ := own_slice hown2
      obtain ⟨k1, k2, A3, A4, rt, rf, hs, hsp⟩ := apart_parts hown2 (by omega)
      have HO2 := Lib.hid hown2
      have HSL2 := Lib.hid rt
      have HS2 := Lib.hid hs
      have HSP := Lib.hid hsp
      clear hown2 hg2 hs hsp
      have hi32 : (Try.prog.info? 37).map (·.size) = some 32 := by kernel_rfl
      have HI := Lib.hid hi32
      have HSL := Lib.hid (sumOf_len b)
      have HSM := Lib.hid (fun (A : Option Addr) (c : Nat) (W : World) (h : BSrc W A c b) (h1 : b.length ≤ c) (h2 : c ≤ 9223372036854775807) => shasum shastep_ok b A c W h h1 (by omega) h2)
      clear hi32 hi hi0 hi1 hi2
      generalize hD : sumOf b = D at *
      have HD := Lib.hid hD
      clear hD
      have HSP32 : Hid ((bcells D).toArray.size = 32) := by unfold RowKit.Hid; rw [List.size_toArray, bcells_length, HSL.out]
      go_wp2_with fail
      refine (HSM.out A3 c2 _ HS2.out k1 k2).mono ?_
      rintro e w3 ⟨rfl, hb3⟩
      have HB3 := Lib.hid hb3
      clear hb3
      go_wp2_with (refine wpList_store_row rfl 37 (.tmp 6) (.tmp 26) rfl w3.heap.size (bcells D).toArray rfl rfl _ _ (heap_alloc_new _ _) (by rw [HI.out, HSP32.out]) (by rw [HSP32.out]; rfl) (cells_one32 _) ?_)
      have HB3a : Hid (Below w2.heap.size w2 ((w3.alloc (.cells (Array.replicate 32 (.int .u8 0)) 37)).setRow w3.heap.size (bcells D).toArray)) := below_setRow (HB3.out.alloc HB3.out.size _) HB3.out.size
      have HR3 : Hid (((w3.alloc (.cells (Array.replicate 32 (.int .u8 0)) 37)).setRow w3.heap.size (bcells D).toArray).heap[w3.heap.size]? = some (.cells (bcells D).toArray 37 (0, 0))) := setRow_heap _ _ _ _ _ _ (heap_alloc_new _ _)
      refine (HSP.out _ HB3a.out).mono ?_
      rintro e w4 ⟨⟨r4, rfl⟩, hs4, row, hg4, hrow⟩
      have HB4 : Hid (Below w.heap.size w w4) := (HB2.out.trans (HB3a.out.mono HB2.out.size)).trans (below_of_grown hg4 (Nat.le_trans HB2.out.size HB3a.out.size) (fun g hg => (hrow g hg).1))
      have HR4 : Hid (w4.heap[w3.heap.size]? = some (.cells (bcells D).toArray 37 (0, 0))) := by
        refine (hg4.block _ (by simp) ?_).trans HR3.out
        intro e
        have := (hrow _ e.symm).2
        have := HB3.out.size
        omega
      have HS4 := Lib.hid hs4
      have HLT : Hid (w3.heap.size < w4.heap.size) := (Array.getElem?_eq_some_iff.1 HR4.out).1
      clear hs4 hg4 hrow rf
      clear rt
      go_upto_region 8 with fail
      refine wp_region_any (by kernel_rfl) ?_
      refine wpAny_ops (ops' := apartOps) (by kernel_rfl) ?_
      refine apartRegion _ w4 (by simp) b D A A2 A3 c c2 (b.length + m.length) w3.heap.size (HA.out.below HB4.out (Nat.le_refl _)) hA2 (by omega) HS4.out k1 k2 (by omega) HD.out HR4.out HSL2.out rfl rfl rfl ?_
      intro w5 hb5
      simp only [apartSlots, List.foldl, apartVal, Act.put, List.setIfInBounds_toArray, List.set_cons_zero, List.set_cons_succ]
      go_wp2_with fail
      go_ret
      exact ⟨rfl, HB4.out.trans (hb5.mono HB4.out.size)⟩
    · go_enter Try.func8, Try.ntmps8
      go_wp2_with fail
      refine (known_any _).mono ?_
      rintro e w8 ⟨rfl, hb8⟩
      go_wp2_with fail
      go_ret
      exact ⟨rfl, hb8⟩
  · go_enter Try.func8, Try.ntmps8
    go_wp2_with fail
    refine (known_any _).mono ?_
    rintro e w8 ⟨rfl, hb8⟩
    go_wp2_with fail
    go_ret
    exact ⟨rfl, hb8⟩
end Go.Proofs.Ytjglboejgmplgaa
