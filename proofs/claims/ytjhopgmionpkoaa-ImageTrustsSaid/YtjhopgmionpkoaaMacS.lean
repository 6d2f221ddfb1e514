/-
  Bytes with their tag, by the reference of mac.
-/
import Derived.Test.YtjhopgmionpkoaaMac2
namespace Go.Proofs.Ytjhopgmionpkoaa
set_option maxRecDepth 20000
open Go.RowKit Mem

set_option maxRecDepth 100000 in
set_option maxHeartbeats 4000000 in
theorem refseal (k b : List UInt8) (A A' : Option Addr) (c c' : Nat) (w : World) (hA : BSrc w A c k) (hm : k.length ≤ 140737488351232 - 200) (hA' : BSrc w A' c' b) (hb : b.length ≤ 140737488351232 - 200) :
    Calls Try.prog 43 #[.slice A k.length c, .slice A' b.length c'] w fun e w' => ∃ v, e = .returned v ∧ w'.ownsRow w.heap.size 5 1 v (b.length + 32) (bcells (b ++ tagOf k b)) ∧ Below w.heap.size w w' := by
  have HA := Lib.hid hA
  have HA' := Lib.hid hA'
  have hi32 : (Try.prog.info? 44).map (·.size) = some 32 := by kernel_rfl
  have HI32 := Lib.hid hi32
  have HTR := Lib.hid (fun (W : World) (h : BSrc W A c k) (h' : BSrc W A' c' b) => reftag k b A A' c c' W h hm h' hb)
  have HFIN : Hid (bcells (b ++ tagOf k b) = bcells b ++ bcells (tagOf k b)) := by unfold RowKit.Hid; rw [bcells_append]
  have HL := Lib.hid (tagOf_len k b)
  generalize b ++ tagOf k b = fin at *
  generalize tagOf k b = T at *
  have HSP : Hid ((bcells T).toArray.size = 32) := by unfold RowKit.Hid; rw [List.size_toArray, bcells_length, HL.out]
  have HONE := Lib.hid (cells_one32 T)
  clear hA hA' hi32
  obtain ⟨i0, hi, hi0, hi1, hi2⟩ := info_parts infoByte
  go_enter Try.func43, Try.ntmps43
  go_wp2_with fail
  refine (HTR.out _ HA.out HA'.out).mono ?_
  rintro e w1 ⟨rfl, hb1⟩
  have HB1 := Lib.hid hb1
  clear hb1
  go_upto_region 2 with (refine wpList_store_row rfl 44 (.tmp 5) (.tmp 9) rfl w1.heap.size (bcells T).toArray rfl rfl _ _ (heap_alloc_new _ _) (by rw [HI32.out, HSP.out]) (by rw [HSP.out]; rfl) HONE.out ?_)
  obtain ⟨W2, hW2⟩ : ∃ W2, W2 = (w1.alloc (.cells (Array.replicate 32 (.int .u8 0)) 44)).setRow w1.heap.size (bcells T).toArray := ⟨_, rfl⟩
  have HK2 : Hid (W2.heap[w1.heap.size]? = some (.cells (bcells T).toArray 44 (0, 0))) := by rw [hW2]; exact setRow_heap _ _ _ _ _ _ (heap_alloc_new _ _)
  have HB2 : Hid (Below w.heap.size w W2) := by rw [hW2]; exact below_setRow (HB1.out.alloc HB1.out.size _) HB1.out.size
  refine wp_congr_world (W1 := W2) hW2 ?_
  have HKL : Hid (w1.heap.size < W2.heap.size) := (Array.getElem?_eq_some_iff.1 HK2.out).1
  clear hW2
  go_wp2_with (at_builtin; refine wpList_app_any rfl (.tmp 10) (.tmp 11) 31 rfl W2.heap.size 5 i0 (.int .u8 0) 1 1 Try.underlying31 hi hi0 hi1 hi2 rfl (by decide) (.slice none 0 0) 0 [] rfl (World.ownsRow_nil _ _ _ _) A' b.length c' (bcells b) rfl (HA'.out.below HB2.out (Nat.le_refl _)) (bcells_one b) ?c3 ?c4 (Nat.le_refl _) ?_)
  case c3 => unfold maxLen; omega
  case c4 => omega
  intro v1 w3 hown1 hg1
  have HB3 : Hid (Below W2.heap.size W2 w3) := below_of_grown hg1 (Nat.le_refl _) (fun g hg => by cases hg)
  try simp only [Nat.zero_add, List.nil_append] at hown1
  have HO1 : Hid (w3.ownsRow W2.heap.size 5 1 v1 b.length (bcells b)) := hown1
  clear hown1 hg1
  have HS3 : Hid (Src w3 (some ⟨w1.heap.size, 0, none⟩) 32 32 (bcells T) 1) := src_row ((HB3.out.block _ HKL.out).trans HK2.out) HL.out.symm
  obtain ⟨A2, c2, rfl⟩ := own_slice HO1.out
  go_wp2_with (at_builtin; refine wpList_app_any rfl (.tmp 13) (.tmp 14) 31 rfl W2.heap.size 5 i0 (.int .u8 0) 1 1 Try.underlying31 hi hi0 hi1 hi2 rfl (by decide) (.slice A2 b.length c2) b.length (bcells b) rfl HO1.out (some ⟨w1.heap.size, 0, none⟩) 32 32 (bcells T) rfl HS3.out (bcells_one T) ?d3 ?d4 HB3.out.size ?_)
  case d3 => unfold maxLen; omega
  case d4 => omega
  intro v2 w4 hown2 hg2
  have HB4 : Hid (Below W2.heap.size W2 w4) := HB3.out.trans (below_of_grown hg2 HB3.out.size (fun g hg => (HO1.out.lt g hg).1))
  rw [← HFIN.out] at hown2
  have HO4 : Hid (w4.ownsRow w.heap.size 5 1 v2 (b.length + 32) (bcells fin)) := own_base hown2 HB2.out.size
  have HB5 := Lib.hid (HB2.out.trans (HB4.out.mono HB2.out.size))
  clear hown2 hg2 HFIN
  go_wp2_with fail
  go_ret
  exact ⟨_, rfl, HO4.out, HB5.out⟩
end Go.Proofs.Ytjhopgmionpkoaa
