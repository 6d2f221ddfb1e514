/-
  Whether a tag is right, by the package mac.
-/
import Derived.Test.YtofjfpnkdcpngaaMacRightR
import Derived.Test.YtofjfpnkdcpngaaMacC
namespace Go.Proofs.Ytofjfpnkdcpngaa
open Go.RowKit Mem

def z32 : List UInt8 := List.replicate 32 0
theorem zero32 : (bcells z32).toArray = Array.replicate 32 (.int .u8 0) := by kernel_rfl
theorem splice_all (t : List UInt8) (h : t.length = 32) : splice (bcells z32) 0 (bcells t) = bcells t := by
  unfold splice
  rw [List.take_zero, List.nil_append, Nat.zero_add, bcells_length, h, List.drop_of_length_le (by rw [bcells_length]; decide), List.append_nil]
set_option maxRecDepth 100000 in
set_option maxHeartbeats 4000000 in
theorem macright (k b t : List UInt8) (A A' A'' : Option Addr) (c c' c'' : Nat) (w : World) (hA : BSrc w A c k) (hc : k.length ≤ c) (hm : k.length ≤ 140737488351232) (hm2 : c ≤ 9223372036854775807) (hA' : BSrc w A' c' b) (hb : b.length ≤ 140737488351232 - 200) (hA'' : BSrc w A'' c'' t) (ht : t.length ≤ 9223372036854775807) :
    Calls Try.prog 17 #[.slice A k.length c, .slice A' b.length c', .slice A'' t.length c''] w fun e w' => e = .returned (.bool (t == tagOf k b)) ∧ Below w.heap.size w w' := by
  have HA := Lib.hid hA
  have HA' := Lib.hid hA'
  have HA'' := Lib.hid hA''
  have HTL := Lib.hid (tagOf_len k b)
  have HTAG := Lib.hid (fun (W : World) (h : BSrc W A c k) (h' : BSrc W A' c' b) => mactag k b A A' c c' W h hc hm hm2 h' hb)
  clear hA hA' hA''
  generalize tagOf k b = T at *
  by_cases h32 : t.length = 32
  · have hib : (Try.prog.info? 5).map (·.size) = some 1 := by kernel_rfl
    have HIB := Lib.hid hib
    have HSA := Lib.hid (splice_all t h32)
    have H32 := Lib.hid h32
    obtain ⟨q, hq⟩ : ∃ q, q = (t == T) := ⟨_, rfl⟩
    rw [← hq]
    have HQ := Lib.hid hq
    clear hib hq
    have hl : (t.length : Int) = 32 := by omega
    go_enter Try.func17, Try.ntmps17
    go_upto_region 4 with fail
    obtain ⟨W0, hW0⟩ : ∃ W0, W0 = w.alloc (.cells (Array.replicate 32 (.int .u8 0)) 27) := ⟨_, rfl⟩
    have HR0 : Hid (W0.heap[w.heap.size]? = some (.cells (bcells z32).toArray 27 (0, 0))) := by rw [hW0, zero32]; exact heap_alloc_new _ _
    have HB0 : Hid (Below w.heap.size w W0) := by rw [hW0]; exact (Below.refl _ _).alloc (Nat.le_refl _) _
    refine wp_congr_world (W1 := W0) hW0 ?_
    clear hW0
    have HCP := Lib.hid (fun (h : 0 < t.length) => (BSrc.at_ (HA''.out.below HB0.out (Nat.le_refl _))).src h)
    go_upto_region 5 with (refine wpList_copy_splice rfl (.tmp 11) (.tmp 12) 22 22 rfl 5 Try.underlying22 HIB.out (some ⟨w.heap.size, 0, none⟩) A'' 32 32 t.length c'' rfl rfl w.heap.size 0 (bcells z32) 27 HR0.out (bcells t) ?c1 ?c2 ?c3 (bcells_one t) w.heap.size W0 (Below.refl _ _) (Nat.le_refl _) ?_)
    case c1 => rw [bcells_length, H32.out]; rfl
    case c2 => intro h; rw [bcells_length] at h; first | exact HCP.out h | exact ⟨rfl, HCP.out h⟩
    case c3 => rw [bcells_length, bcells_length, H32.out]; decide
    intro w4 hg4 hb4
    rw [HSA.out] at hg4
    have HB4 := Lib.hid (HB0.out.trans hb4)
    clear hb4
    go_upto_region 5 with fail
    refine wp_region_any (by kernel_rfl) ?_
    refine wpAny_ops (ops' := mrightOps) (by kernel_rfl) ?_
    refine mrightRegion _ w4 ?hs k b t T A A' c c' w.heap.size H32.out HTL.out hg4.out (fun W h => HTAG.out W (HA.out.below (HB4.out.trans (h.mono HB4.out.size)) (Nat.le_refl _)) (HA'.out.below (HB4.out.trans (h.mono HB4.out.size)) (Nat.le_refl _))) rfl rfl rfl ?_
    case hs => simp [Act.put]
    intro w5 hb5
    simp only [mrightSlots, List.foldl_cons, List.foldl_nil]
    simp only [mrightVal]
    simp only [Act.put, List.setIfInBounds_toArray, List.set_cons_zero, List.set_cons_succ]
    have HB5 := Lib.hid (HB4.out.trans (hb5.mono HB4.out.size))
    clear hb5
    rw [← HQ.out]
    go_wp2_with fail
    go_ret
    exact ⟨rfl, HB5.out⟩
  · have HF : Hid ((t == T) = false) := by
      unfold RowKit.Hid
      rw [beq_eq_false_iff_ne]
      rintro rfl
      exact h32 HTL.out
    rw [HF.out]
    have hl : ¬ (t.length : Int) = 32 := by omega
    go_enter Try.func17, Try.ntmps17
    go_wp2_with fail
    go_ret
    exact ⟨rfl, Below.refl _ _⟩
end Go.Proofs.Ytofjfpnkdcpngaa
