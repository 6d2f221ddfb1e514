/-
  The drawn statement of mac.Right, whatever the order.
  Whether a tag is right, by the package mac.
-/
import Derived.Test.YtjhopgmionpkoaaMac1
import Derived.Test.YtjhopgmionpkoaaCells
import Derived.Test.YtjhopgmionpkoaaRgn
namespace Go.Proofs.Ytjhopgmionpkoaa
set_option maxRecDepth 20000
open Go.RowKit Mem

set_option linter.unusedVariables false
noncomputable def mrightOps : Array Oper := findOps 5 ((Try.f73).body.getD (.exit 0))
def mrightSlots : List (Nat × Nat) := [(0, 14), (1, 15), (2, 16), (3, 17), (4, 18), (5, 6)]
def mrightVal (k b D T : List UInt8) (A A' : Option Addr) (c c' : Nat) : Nat → Value
  | 0 => .agg (bcells D).toArray
  | 1 => .slice A k.length c
  | 2 => .slice A' b.length c'
  | 3 => .agg (bcells T).toArray
  | 4 => .bool (D == T)
  | _ => .bool (D == T)
theorem mrightRegion {Q : Exit → Act → World → Prop} (a0 : Act) (W0 : World) (hs : 18 < a0.tmps.size) (k b D T : List UInt8) (A A' : Option Addr) (c c' g : Nat) (hD : D.length = 32) (hT : T.length = 32) (hr : W0.heap[g]? = some (.cells (bcells D).toArray 44 (0, 0))) (ht1 : ∀ W, Below W0.heap.size W0 W → Calls Try.prog 22 #[.slice A k.length c, .slice A' b.length c'] W fun e w' => e = .returned (.agg (bcells T).toArray) ∧ Below W.heap.size W w')
    (e0 : a0.eval (.tmp 0) = .slice A k.length c)
    (e1 : a0.eval (.tmp 1) = .slice A' b.length c')
    (e7 : a0.eval (.tmp 7) = .pointer (some ⟨g, 0, none⟩))
    (hQ : ∀ w, Below W0.heap.size W0 w → Q .normal (mrightSlots.foldl (fun x p => x.put (some p.2) ((mrightVal k b D T A A' c c') p.1)) a0) w) :
    wpAny Try.prog .any mrightOps Q 6 (Array.replicate 6 false) a0 W0.drew := by
  have ok : slotsFix mrightSlots a0.tmps.size = true := by
    have : ∀ z, 18 < z → slotsFix mrightSlots z = true := by
      intro z hz
      simp [slotsFix, mrightSlots]
      omega
    exact this _ hs
  have hi32 : (Try.prog.info? 44).map (·.size) = some 32 := by kernel_rfl
  have hgl : g < W0.heap.size := (Array.getElem?_eq_some_iff.1 hr).1
  have heq : ∀ w, (binOp .eql 44 (.agg (bcells D).toArray) (.agg (bcells T).toArray)).run Try.prog w = .ok (.bool (D == T)) w := fun w => eql32 D T hD hT w
  refine region_fixed (by kernel_rfl) W0 a0 mrightSlots (mrightVal k b D T A A' c c') ok (by kernel_rfl) 6 (by kernel_rfl) ?_ hQ
  intro i L a w h hi hneed
  rcases (show i = 0 ∨ i = 1 ∨ i = 2 ∨ i = 3 ∨ i = 4 ∨ i = 5 by omega) with rfl | rfl | rfl | rfl | rfl | rfl
  · exact fix_value (i := 0) (d := 14) rfl (wanted_none rfl) rfl (by decide) (x_load_row (d := .array 32 5) rfl ((h.old rfl).trans e7) ((h.below.block _ hgl).trans hr) (by kernel_rfl) rfl hi32 (by rw [bcells_length, hD]))
  · exact fix_value (i := 1) (d := 15) rfl (wanted_none rfl) rfl (by decide) (x_move rfl ((h.old rfl).trans e0))
  · exact fix_value (i := 2) (d := 16) rfl (wanted_none rfl) rfl (by decide) (x_move rfl ((h.old rfl).trans e1))
  · refine fix_call (i := 3) (d := 17) 22 Try.f22 #[.tmp 15, .tmp 16] _ #[.slice A k.length c, .slice A' b.length c'] rfl (wanted_none rfl) rfl (by decide) rfl (by simp [(h.get 1 15 (by decide) (hneed 1 (by kernel_rfl))), (h.get 2 16 (by decide) (hneed 2 (by kernel_rfl))), mrightVal]) Try.func22 (by kernel_rfl) (by kernel_rfl) ?_
    exact ht1 w h.below
  · exact fix_value (i := 4) (d := 18) rfl (wanted_none rfl) rfl (by decide) (x_eql_agg rfl (h.get 0 14 (by decide) (hneed 0 (by kernel_rfl))) (h.get 3 17 (by decide) (hneed 3 (by kernel_rfl))) (by kernel_rfl) (heq w))
  · exact fix_value (i := 5) (d := 6) rfl (wanted_none rfl) rfl (by decide) (x_assign rfl (h.get 4 18 (by decide) (hneed 4 (by kernel_rfl))))
end Go.Proofs.Ytjhopgmionpkoaa
namespace Go.Proofs.Ytjhopgmionpkoaa
set_option maxRecDepth 20000
open Go.RowKit Mem

def z32 : List UInt8 := List.replicate 32 0
theorem zero32 : (bcells z32).toArray = Array.replicate 32 (.int .u8 0) := by kernel_rfl
theorem splice_all (t : List UInt8) (h : t.length = 32) : splice (bcells z32) 0 (bcells t) = bcells t := by
  unfold splice
  rw [List.take_zero, List.nil_append, Nat.zero_add, bcells_length, h, List.drop_of_length_le (by rw [bcells_length]; decide), List.append_nil]
set_option maxRecDepth 100000 in
set_option maxHeartbeats 4000000 in
theorem macright (k b t : List UInt8) (A A' A'' : Option Addr) (c c' c'' : Nat) (w : World) (hA : BSrc w A c k) (hc : k.length ≤ c) (hm : k.length ≤ 140737488351232) (hm2 : c ≤ 9223372036854775807) (hA' : BSrc w A' c' b) (hb : b.length ≤ 140737488351232 - 200) (hA'' : BSrc w A'' c'' t) (_ht : t.length ≤ 9223372036854775807) :
    Calls Try.prog 73 #[.slice A k.length c, .slice A' b.length c', .slice A'' t.length c''] w fun e w' => e = .returned (.bool (t == tagOf k b)) ∧ Below w.heap.size w w' := by
  have HA := Lib.hid hA
  have HA' := Lib.hid hA'
  have HA'' := Lib.hid hA''
  have HTL := Lib.hid (tagOf_len k b)
  have HTAG := Lib.hid (fun (W : World) (h : BSrc W A c k) (h' : BSrc W A' c' b) => mactag k b A A' c c' W h hc hm hm2 h' hb)
  clear hA hA' hA''
  generalize tagOf k b = T at *
  by_cases h32 : t.length = 32
  · have hib : (Try.prog.info? 5).map (·.size) = some 1 := by kernel_rfl
    have HIB := Lib.hid hib
    have HSA := Lib.hid (splice_all t h32)
    have H32 := Lib.hid h32
    obtain ⟨q, hq⟩ : ∃ q, q = (t == T) := ⟨_, rfl⟩
    rw [← hq]
    have HQ := Lib.hid hq
    clear hib hq
    have hl : (t.length : Int) = 32 := by omega
    go_enter Try.func73, Try.ntmps73
    go_upto_region 4 with fail
    obtain ⟨W0, hW0⟩ : ∃ W0, W0 = w.alloc (.cells (Array.replicate 32 (.int .u8 0)) 44) := ⟨_, rfl⟩
    have HR0 : Hid (W0.heap[w.heap.size]? = some (.cells (bcells z32).toArray 44 (0, 0))) := by rw [hW0, zero32]; exact heap_alloc_new _ _
    have HB0 : Hid (Below w.heap.size w W0) := by rw [hW0]; exact (Below.refl _ _).alloc (Nat.le_refl _) _
    refine wp_congr_world (W1 := W0) hW0 ?_
    clear hW0
    have HCP := Lib.hid (fun (h : 0 < t.length) => (BSrc.at_ (HA''.out.below HB0.out (Nat.le_refl _))).src h)
    go_upto_region 5 with (refine wpList_copy_splice rfl (.tmp 11) (.tmp 12) 31 31 rfl 5 Try.underlying31 HIB.out (some ⟨w.heap.size, 0, none⟩) A'' 32 32 t.length c'' rfl rfl w.heap.size 0 (bcells z32) 44 HR0.out (bcells t) ?c1 ?c2 ?c3 (bcells_one t) w.heap.size W0 (Below.refl _ _) (Nat.le_refl _) ?_)
    case c1 => rw [bcells_length, H32.out]; rfl
    case c2 => intro h; rw [bcells_length] at h; first | exact HCP.out h | exact ⟨rfl, HCP.out h⟩
    case c3 => rw [bcells_length, bcells_length, H32.out]; decide
    intro w4 hg4 hb4
    rw [HSA.out] at hg4
    have HB4 := Lib.hid (HB0.out.trans hb4)
    clear hb4
    go_upto_region 5 with fail
    refine wp_region_any (by kernel_rfl) ?_
    refine wpAny_ops (ops' := mrightOps) (by kernel_rfl) ?_
    refine mrightRegion _ w4 ?hs k b t T A A' c c' w.heap.size H32.out HTL.out hg4.out (fun W h => HTAG.out W (HA.out.below (HB4.out.trans (h.mono HB4.out.size)) (Nat.le_refl _)) (HA'.out.below (HB4.out.trans (h.mono HB4.out.size)) (Nat.le_refl _))) rfl rfl rfl ?_
    case hs => simp
    intro w5 hb5
    simp only [mrightSlots, List.foldl_cons, List.foldl_nil]
    simp only [mrightVal]
    simp only [Act.put, List.setIfInBounds_toArray, List.set_cons_zero, List.set_cons_succ]
    have HB5 := Lib.hid (HB4.out.trans (hb5.mono HB4.out.size))
    clear hb5
    rw [← HQ.out]
    go_wp2_with fail
    go_ret
    exact ⟨rfl, HB5.out⟩
  · have HF : Hid ((t == T) = false) := by
      unfold RowKit.Hid
      rw [beq_eq_false_iff_ne]
      rintro rfl
      exact h32 HTL.out
    rw [HF.out]
    have hl : ¬ (t.length : Int) = 32 := by omega
    go_enter Try.func73, Try.ntmps73
    go_wp2_with fail
    go_ret
    exact ⟨rfl, Below.refl _ _⟩
end Go.Proofs.Ytjhopgmionpkoaa
