/-
  The drawn statement of mac.Seal, whatever the order.
  Bytes with their tag behind, by the package mac.
  The drawn statement of the reference's Right, whatever the order.
  Whether a tag is right, by the reference of mac; and the slices of what is to be opened.
  The drawn statement of mac.Open, whatever the order.
  The drawn statement of the reference's Open, whatever the order.
  What was sealed is opened: by the package mac and by its reference.
  Small laws for the last laws of mac: strings that are unlike, equal bytes.
-/
import Derived.Test.YtjhopgmionpkoaaMac4
import Derived.Test.YtjhopgmionpkoaaRgn
import Derived.Test.YtjhopgmionpkoaaMac2
import Derived.Test.YtjhopgmionpkoaaMac3
namespace Go.Proofs.Ytjhopgmionpkoaa
set_option maxRecDepth 20000
open Go.RowKit Mem

noncomputable def sealOps : Array Oper := findOps 2 ((Try.f42).body.getD (.exit 0))
def sealSlots : List (Nat × Nat) := [(0, 9), (1, 10), (2, 11), (4, 13), (6, 15)]
def sealCh : List (Nat × Option Nat) := [(3, some 12), (5, some 14), (7, some 16), (8, some 4)]
def sealVal (b : List UInt8) (A' : Option Addr) (c' g : Nat) : Nat → Value
  | 0 => .slice A' b.length c'
  | 1 => .int .i64 (b.length : Int)
  | 2 => .int .i64 ((b.length : Int) + 32)
  | 4 => .slice A' b.length c'
  | _ => .slice (some ⟨g, 0, none⟩) 32 32
def SealC (B : Nat) (b T : List UInt8) (L : Nat → Bool) (vs : Nat → Value) (w : World) : Prop :=
  B ≤ w.heap.size ∧ ((L 5 = true → L 3 = true) ∧ (L 7 = true → L 5 = true) ∧ (L 8 = true → L 7 = true)) ∧ (L 3 = true → L 5 = false → w.ownsRow B 5 1 (vs 12) 0 []) ∧ (L 5 = true → L 7 = false → w.ownsRow B 5 1 (vs 14) b.length (bcells b)) ∧ (L 7 = true → w.ownsRow B 5 1 (vs 16) (b.length + 32) (bcells (b ++ T))) ∧ (L 8 = true → vs 4 = vs 16)
theorem sealRegion {Q : Exit → Act → World → Prop} (a0 : Act) (W0 : World) (hs : 16 < a0.tmps.size) (b T : List UInt8) (A' : Option Addr) (c' g : Nat) (Z : List Value) (hZ : Z.length = 0 + (b.length + 32)) (hb : b.length ≤ 140737488351232 - 200) (hT : T.length = 32)
    (hA' : BSrc W0 A' c' b) (hr : W0.heap[g]? = some (.cells (bcells T).toArray 44 (0, 0)))
    (hmk : ∀ wx : World, (Instr.makeSlice 31 (.int .i64 0) (.int .i64 ((b.length : Int) + 32))).run Try.prog wx = .ok (.slice (some ⟨wx.heap.size, 0, none⟩) 0 (b.length + 32)) (wx.alloc (.cells Z.toArray 5)))
    (e1 : a0.eval (.tmp 1) = .slice A' b.length c')
    (e5 : a0.eval (.tmp 5) = .pointer (some ⟨g, 0, none⟩))
    (hQ : ∀ (vs : Nat → Value) w, Below W0.heap.size W0 w → w.ownsRow W0.heap.size 5 1 (vs 16) (b.length + 32) (bcells (b ++ T)) → vs 4 = vs 16 → Q .normal (sealSlots.foldl (fun x p => x.put (some p.2) ((sealVal b A' c' g) p.1)) ([12, 14, 16, 4].foldl (fun x d => x.put (some d) (vs d)) a0)) w) :
    wpAny Try.prog .any sealOps Q 9 (Array.replicate 9 false) a0 W0.drew := by
  have ok : slotsFix sealSlots a0.tmps.size = true := by
    have : ∀ z, 16 < z → slotsFix sealSlots z = true := by
      intro z hz
      simp [slotsFix, sealSlots]
      omega
    exact this _ hs
  have okc : chainOk sealSlots sealCh a0.tmps.size = true := by
    have : ∀ z, 16 < z → chainOk sealSlots sealCh z = true := by
      intro z hz
      simp [chainOk, sealSlots, sealCh]
      omega
    exact this _ hs
  obtain ⟨i0, hi, hi0, hi1, hi2⟩ := info_parts infoByte
  have hgl : g < W0.heap.size := (Array.getElem?_eq_some_iff.1 hr).1
  refine region_chain (by kernel_rfl) W0 a0 sealSlots (sealVal b A' c' g) sealCh (SealC W0.heap.size b T) ok okc 9 (by kernel_rfl) (by kernel_rfl) (by kernel_rfl) ?_ ?_ ?_ ?_ ?_
  · intro L L' vs w h hc
    have h3 := h _ (show (3, some 12) ∈ sealCh by decide)
    have h5 := h _ (show (5, some 14) ∈ sealCh by decide)
    have h7 := h _ (show (7, some 16) ∈ sealCh by decide)
    have h8 := h _ (show (8, some 4) ∈ sealCh by decide)
    unfold SealC at *
    simp only [← h3, ← h5, ← h7, ← h8]
    exact hc
  · rintro L vs w w' ⟨h0, hd, h1, h2, h3, h4⟩ hb
    exact ⟨Nat.le_trans h0 hb.size, hd, fun a b => own_below (h1 a b) hb, fun a b => own_below (h2 a b) hb, fun a => own_below (h3 a) hb, h4⟩
  · refine ⟨Nat.le_refl _, ⟨fun h => ?_, fun h => ?_, fun h => ?_⟩, fun h => ?_, fun h => ?_, fun h => ?_, fun h => ?_⟩ <;> cases h
  · intro a1 i L a w hev h hc hi9 hf hneed
    obtain ⟨h0, ⟨d5, d7, d8⟩, h1, h2, h3, h4⟩ := hc
    simp only [] at d5 d7 d8 h1 h2 h3 h4
    have e1' := (hev 1 rfl).trans e1
    have e5' := (hev 5 rfl).trans e5
    have hch : ∀ d, (sealSlots.map (·.2)).contains d = false → a.eval (.tmp d) = a1.eval (.tmp d) := fun d hd => h.old hd
    rcases (show i = 0 ∨ i = 1 ∨ i = 2 ∨ i = 3 ∨ i = 4 ∨ i = 5 ∨ i = 6 ∨ i = 7 ∨ i = 8 by omega) with rfl | rfl | rfl | rfl | rfl | rfl | rfl | rfl | rfl
    · exact .inl (fix_value (i := 0) (d := 9) rfl (wanted_none rfl) rfl (by decide) (x_move rfl ((h.old rfl).trans e1')))
    · exact .inl (fix_value (i := 1) (d := 10) rfl (wanted_none rfl) rfl (by decide) (x_len rfl Try.underlying31 (h.get 0 9 (by decide) (hneed 0 (by kernel_rfl)))))
    · exact .inl (fix_value (i := 2) (d := 11) rfl (wanted_none rfl) rfl (by decide) (x_add64 rfl (h.get 1 10 (by decide) (hneed 1 (by kernel_rfl))) rfl (IntWalk.i64_in _ (by omega))))
    · have f5 : L.getD 5 false = false := by
        cases hq : L.getD 5 false with
        | false => rfl
        | true => rw [d5 hq] at hf; cases hf
      have f7 : L.getD 7 false = false := by
        cases hq : L.getD 7 false with
        | false => rfl
        | true => rw [d7 hq] at f5; cases f5
      have f8 : L.getD 8 false = false := by
        cases hq : L.getD 8 false with
        | false => rfl
        | true => rw [d8 hq] at f7; cases f7
      refine .inr ⟨some 12, by decide, ch_value (i := 3) rfl (wanted_none rfl) (x_make rfl rfl (h.get 2 11 (by decide) (hneed 2 (by kernel_rfl))) (hmk w)) ⟨_, rfl, h.below.alloc h0 _, ?_⟩⟩
      refine ⟨by simp; omega, ⟨fun hh => ?_, fun hh => ?_, fun hh => ?_⟩, fun _ _ => ?_, fun hh => ?_, fun hh => ?_, fun hh => ?_⟩
      · rfl
      · simp only [Nat.reduceEqDiff, if_false, f7] at hh; cases hh
      · simp only [Nat.reduceEqDiff, if_false, f8] at hh; cases hh
      · exact ⟨rfl, .inr ⟨w.heap.size, b.length + 32, Z.toArray, rfl, h0, heap_alloc_new _ _, Nat.zero_le _, by unfold maxLen; omega, by rw [List.size_toArray, hZ, Nat.mul_one]; omega, rfl⟩⟩
      · simp only [Nat.reduceEqDiff, if_false, f5] at hh; cases hh
      · simp only [Nat.reduceEqDiff, if_false, f7] at hh; cases hh
      · simp only [Nat.reduceEqDiff, if_false, f8] at hh; cases hh
    · exact .inl (fix_value (i := 4) (d := 13) rfl (wanted_none rfl) rfl (by decide) (x_move rfl ((h.old rfl).trans e1')))
    · have n3 := hneed 3 (by kernel_rfl)
      have f7 : L.getD 7 false = false := by
        cases hq : L.getD 7 false with
        | false => rfl
        | true => rw [d7 hq] at hf; cases hf
      have f8 : L.getD 8 false = false := by
        cases hq : L.getD 8 false with
        | false => rfl
        | true => rw [d8 hq] at f7; cases f7
      refine .inr ⟨some 14, by decide, ch_oper (i := 5) rfl (wanted_none rfl) ?_⟩
      refine wp_app_any (.tmp 12) (.tmp 13) 31 rfl W0.heap.size 5 i0 (.int .u8 0) 1 1 Try.underlying31 hi hi0 hi1 hi2 rfl (by decide) (a1.eval (.tmp 12)) 0 [] (h.old rfl) (h1 n3 hf) A' b.length c' (bcells b) (h.get 4 13 (by decide) (hneed 4 (by kernel_rfl))) (hA'.below h.below (Nat.le_refl _)) (bcells_one b) (by unfold maxLen; omega) (by omega) h0 ?_
      intro v' w' hown hg
      rw [Nat.zero_add, List.nil_append] at hown
      have hb5 : Below W0.heap.size W0 w' := h.below.trans (below_of_grown hg h0 (fun g hg => ((h1 n3 hf).lt g hg).1))
      refine ⟨_, rfl, hb5, hb5.size, ⟨fun hh => ?_, fun hh => ?_, fun hh => ?_⟩, fun _ hh => ?_, fun _ _ => hown, fun hh => ?_, fun hh => ?_⟩
      · simp only [Nat.reduceEqDiff, if_false]; exact n3
      · simp only [Nat.reduceEqDiff, if_false, f7] at hh; cases hh
      · simp only [Nat.reduceEqDiff, if_false, f8] at hh; cases hh
      · simp only [if_true] at hh; cases hh
      · simp only [Nat.reduceEqDiff, if_false, f7] at hh; cases hh
      · simp only [Nat.reduceEqDiff, if_false, f8] at hh; cases hh
    · exact .inl (fix_value (i := 6) (d := 15) rfl (wanted_none rfl) rfl (by decide) (x_slice_row rfl ((h.old rfl).trans e5') (by kernel_rfl)))
    · have n5 := hneed 5 (by kernel_rfl)
      have f8 : L.getD 8 false = false := by
        cases hq : L.getD 8 false with
        | false => rfl
        | true => rw [d8 hq] at hf; cases hf
      refine .inr ⟨some 16, by decide, ch_oper (i := 7) rfl (wanted_none rfl) ?_⟩
      refine wp_app_any (.tmp 14) (.tmp 15) 31 rfl W0.heap.size 5 i0 (.int .u8 0) 1 1 Try.underlying31 hi hi0 hi1 hi2 rfl (by decide) (a1.eval (.tmp 14)) b.length (bcells b) (h.old rfl) (h2 n5 hf) (some ⟨g, 0, none⟩) 32 32 (bcells T) (h.get 6 15 (by decide) (hneed 6 (by kernel_rfl))) (src_row ((h.below.block _ hgl).trans hr) hT.symm) (bcells_one T) (by unfold maxLen; omega) (by omega) h0 ?_
      intro v' w' hown hg
      rw [← bcells_append] at hown
      have hb5 : Below W0.heap.size W0 w' := h.below.trans (below_of_grown hg h0 (fun g hg => ((h2 n5 hf).lt g hg).1))
      refine ⟨_, rfl, hb5, hb5.size, ⟨fun hh => ?_, fun hh => ?_, fun hh => ?_⟩, fun _ hh => ?_, fun _ hh => ?_, fun _ => hown, fun hh => ?_⟩
      · simp only [Nat.reduceEqDiff, if_false] at hh ⊢; exact d5 hh
      · simp only [Nat.reduceEqDiff, if_false]; exact n5
      · simp only [Nat.reduceEqDiff, if_false, f8] at hh; cases hh
      · simp only [Nat.reduceEqDiff, if_false, n5] at hh; cases hh
      · simp only [if_true] at hh; cases hh
      · simp only [Nat.reduceEqDiff, if_false, f8] at hh; cases hh
    · have n7 := hneed 7 (by kernel_rfl)
      have n5 := d7 n7
      refine .inr ⟨some 4, by decide, ch_value (i := 8) rfl (wanted_none rfl) (x_assign rfl (h.old rfl)) ⟨_, rfl, h.below, ?_⟩⟩
      refine ⟨h0, ⟨fun hh => ?_, fun hh => ?_, fun hh => ?_⟩, fun _ hh => ?_, fun _ hh => ?_, fun _ => h3 n7, fun _ => ?_⟩
      · simp only [Nat.reduceEqDiff, if_false] at hh ⊢; exact d5 hh
      · simp only [Nat.reduceEqDiff, if_false]; exact n5
      · simp only [Nat.reduceEqDiff, if_false]; exact n7
      · simp only [Nat.reduceEqDiff, if_false, n5] at hh; cases hh
      · simp only [Nat.reduceEqDiff, if_false, n7] at hh; cases hh
      · rfl
  · rintro vs w hb ⟨_, _, _, _, h3, h4⟩
    exact hQ vs w hb (h3 rfl) (h4 rfl)
end Go.Proofs.Ytjhopgmionpkoaa
namespace Go.Proofs.Ytjhopgmionpkoaa
set_option maxRecDepth 20000
open Go.RowKit Mem

set_option maxRecDepth 100000 in
set_option maxHeartbeats 8000000 in
theorem macseal (k b : List UInt8) (A A' : Option Addr) (c c' : Nat) (w : World) (hA : BSrc w A c k) (hc : k.length ≤ c) (hm : k.length ≤ 140737488351232) (hm2 : c ≤ 9223372036854775807) (hA' : BSrc w A' c' b) (hb : b.length ≤ 140737488351232 - 200) :
    Calls Try.prog 42 #[.slice A k.length c, .slice A' b.length c'] w fun e w' => ∃ v, e = .returned v ∧ w'.ownsRow w.heap.size 5 1 v (b.length + 32) (bcells (b ++ tagOf k b)) ∧ Below w.heap.size w w' := by
  obtain ⟨Z, hZl, hmk0⟩ := make_bytes 0 (b.length + 32) (by omega)
  have hmk : ∀ wx : World, (Instr.makeSlice 31 (.int .i64 0) (.int .i64 ((b.length : Int) + 32))).run Try.prog wx = .ok (.slice (some ⟨wx.heap.size, 0, none⟩) 0 (b.length + 32)) (wx.alloc (.cells Z.toArray 5)) := fun wx => by
    have h := hmk0 wx
    have e1 : (((0 : Nat) : Int) + ((b.length + 32 : Nat) : Int)) = (b.length : Int) + 32 := by omega
    have e2 : ((0 : Nat) : Int) = 0 := rfl
    have e3 : 0 + (b.length + 32) = b.length + 32 := Nat.zero_add _
    rw [e1, e2, e3] at h
    exact h
  have HMK := Lib.hid hmk
  have HZL := Lib.hid hZl
  have HA := Lib.hid hA
  have HA' := Lib.hid hA'
  have hi32 : (Try.prog.info? 44).map (·.size) = some 32 := by kernel_rfl
  have HI32 := Lib.hid hi32
  have HTR := Lib.hid (fun (W : World) (h : BSrc W A c k) (h' : BSrc W A' c' b) => mactag k b A A' c c' W h hc hm hm2 h' hb)
  have HL := Lib.hid (tagOf_len k b)
  obtain ⟨fin, hfin⟩ : ∃ fin, fin = b ++ tagOf k b := ⟨_, rfl⟩
  rw [← hfin]
  generalize tagOf k b = T at *
  have HFIN0 : Hid (b ++ T = fin) := hfin.symm
  have HSP : Hid ((bcells T).toArray.size = 32) := by unfold RowKit.Hid; rw [List.size_toArray, bcells_length, HL.out]
  have HONE := Lib.hid (cells_one32 T)
  clear hA hA' hi32 hmk0 hmk hZl hfin
  obtain ⟨i0, hi, hi0, hi1, hi2⟩ := info_parts infoByte
  go_enter Try.func42, Try.ntmps42
  go_wp2_with fail
  refine (HTR.out _ HA.out HA'.out).mono ?_
  rintro e w1 ⟨rfl, hb1⟩
  have HB1 := Lib.hid hb1
  clear hb1
  go_upto_region 2 with (refine wpList_store_row rfl 44 (.tmp 5) (.tmp 8) rfl w1.heap.size (bcells T).toArray rfl rfl _ _ (heap_alloc_new _ _) (by rw [HI32.out, HSP.out]) (by rw [HSP.out]; rfl) HONE.out ?_)
  obtain ⟨W2, hW2⟩ : ∃ W2, W2 = (w1.alloc (.cells (Array.replicate 32 (.int .u8 0)) 44)).setRow w1.heap.size (bcells T).toArray := ⟨_, rfl⟩
  have HK2 : Hid (W2.heap[w1.heap.size]? = some (.cells (bcells T).toArray 44 (0, 0))) := by rw [hW2]; exact setRow_heap _ _ _ _ _ _ (heap_alloc_new _ _)
  have HB2 : Hid (Below w.heap.size w W2) := by rw [hW2]; exact below_setRow (HB1.out.alloc HB1.out.size _) HB1.out.size
  refine wp_congr_world (W1 := W2) hW2 ?_
  have HKL : Hid (w1.heap.size < W2.heap.size) := (Array.getElem?_eq_some_iff.1 HK2.out).1
  clear hW2
  refine wp_region_any (by kernel_rfl) ?_
  refine wpAny_ops (ops' := sealOps) (by kernel_rfl) ?_
  refine sealRegion _ W2 ?hs b T A' c' w1.heap.size Z HZL.out hb HL.out (HA'.out.below HB2.out (Nat.le_refl _)) HK2.out HMK.out rfl rfl ?_
  case hs => simp [Act.put]
  intro vs w5 hb5 hown5 he5
  have HB5 := Lib.hid (HB2.out.trans (hb5.mono HB2.out.size))
  have HO5 := Lib.hid (own_base hown5 HB2.out.size)
  clear hb5 hown5
  rw [HFIN0.out] at HO5
  simp only [sealSlots, List.foldl_cons, List.foldl_nil]
  simp only [sealVal]
  simp only [Act.put, List.setIfInBounds_toArray, List.set_cons_zero, List.set_cons_succ]
  rw [he5]
  clear he5
  generalize vs 16 = v16 at *
  go_wp2_with fail
  go_ret
  exact ⟨_, rfl, HO5.out, HB5.out⟩
end Go.Proofs.Ytjhopgmionpkoaa
namespace Go.Proofs.Ytjhopgmionpkoaa
set_option maxRecDepth 20000
open Go.RowKit Mem

set_option linter.unusedVariables false
noncomputable def rrightOps : Array Oper := findOps 2 ((Try.f80).body.getD (.exit 0))
def rrightSlots : List (Nat × Nat) := [(0, 11), (1, 12), (2, 13), (3, 14), (4, 15), (5, 6)]
def rrightVal (t T : List UInt8) (A'' : Option Addr) (c'' g : Nat) : Nat → Value
  | 0 => .slice A'' t.length c''
  | 1 => .string ⟨t.toArray⟩
  | 2 => .slice (some ⟨g, 0, none⟩) 32 32
  | 3 => .string ⟨T.toArray⟩
  | 4 => .bool (t == T)
  | _ => .bool (t == T)
theorem rrightRegion {Q : Exit → Act → World → Prop} (a0 : Act) (W0 : World) (hs : 15 < a0.tmps.size) (t T : List UInt8) (A'' : Option Addr) (c'' g : Nat) (hT : T.length = 32) (hr : W0.heap[g]? = some (.cells (bcells T).toArray 44 (0, 0))) (ht : BytesAt W0 A'' t)
    (e2 : a0.eval (.tmp 2) = .slice A'' t.length c'')
    (e7 : a0.eval (.tmp 7) = .pointer (some ⟨g, 0, none⟩))
    (hQ : ∀ w, Below W0.heap.size W0 w → Q .normal (rrightSlots.foldl (fun x p => x.put (some p.2) ((rrightVal t T A'' c'' g) p.1)) a0) w) :
    wpAny Try.prog .any rrightOps Q 6 (Array.replicate 6 false) a0 W0.drew := by
  have ok : slotsFix rrightSlots a0.tmps.size = true := by
    have : ∀ z, 15 < z → slotsFix rrightSlots z = true := by
      intro z hz
      simp [slotsFix, rrightSlots]
      omega
    exact this _ hs
  have hgl : g < W0.heap.size := (Array.getElem?_eq_some_iff.1 hr).1
  have cv : ∀ w, BytesAt w (some ⟨g, 0, none⟩) T → (convert 31 9 (.slice (some ⟨g, 0, none⟩) 32 32)).run Try.prog w = .ok (.string ⟨T.toArray⟩) w := fun w h => by have := conv_bytes w (some ⟨g, 0, none⟩) 32 T h; rw [hT] at this; exact this
  refine region_fixed (by kernel_rfl) W0 a0 rrightSlots (rrightVal t T A'' c'' g) ok (by kernel_rfl) 6 (by kernel_rfl) ?_ hQ
  intro i L a w h hi hneed
  rcases (show i = 0 ∨ i = 1 ∨ i = 2 ∨ i = 3 ∨ i = 4 ∨ i = 5 by omega) with rfl | rfl | rfl | rfl | rfl | rfl
  · exact fix_value (i := 0) (d := 11) rfl (wanted_none rfl) rfl (by decide) (x_move rfl ((h.old rfl).trans e2))
  · exact fix_value (i := 1) (d := 12) rfl (wanted_none rfl) rfl (by decide) (x_conv rfl (h.get 0 11 (by decide) (hneed 0 (by kernel_rfl))) (conv_bytes w A'' c'' t (ht.below h.below (Nat.le_refl _))))
  · exact fix_value (i := 2) (d := 13) rfl (wanted_none rfl) rfl (by decide) (x_slice_row rfl ((h.old rfl).trans e7) (by kernel_rfl))
  · exact fix_value (i := 3) (d := 14) rfl (wanted_none rfl) rfl (by decide) (x_conv rfl (h.get 2 13 (by decide) (hneed 2 (by kernel_rfl))) (cv w (row_bytes ((h.below.block _ hgl).trans hr))))
  · exact fix_value (i := 4) (d := 15) rfl (wanted_none rfl) rfl (by decide) (((x_eql_str rfl (h.get 1 12 (by decide) (hneed 1 (by kernel_rfl))) (h.get 3 14 (by decide) (hneed 3 (by kernel_rfl)))).trans (by rw [str_eq]; rfl)))
  · exact fix_value (i := 5) (d := 6) rfl (wanted_none rfl) rfl (by decide) (x_assign rfl (h.get 4 15 (by decide) (hneed 4 (by kernel_rfl))))
end Go.Proofs.Ytjhopgmionpkoaa
namespace Go.Proofs.Ytjhopgmionpkoaa
set_option maxRecDepth 20000
open Go.RowKit Mem

theorem BSrc.cut {w : World} {A : Option Addr} {b : List UInt8} {c : Nat} (h : BSrc w A c b) (lo hi m : Nat) (h1 : lo ≤ hi) (h2 : hi ≤ b.length) (h0 : 0 < b.length) : ∃ A', Go.sliced A lo hi m 1 = .slice A' (hi - lo) (m - lo) ∧ (b.length ≤ m → BSrc w A' (m - lo) ((b.take hi).drop lo)) := by
  unfold Go.sliced
  refine ⟨_, rfl, fun h3 => ?_⟩
  obtain ⟨g, off, rfl, hc0⟩ := BSrc.at_ h 0 h0
  have hl : ((b.take hi).drop lo).length = hi - lo := by rw [List.length_drop, List.length_take]; omega
  refine ⟨by rw [bcells_length, Nat.mul_one], fun hn => ?_, fun ad had j u hu => ?_⟩
  · split at hn
    · cases hn
    · cases hn
  · have hj : j < hi - lo := by
      rcases Nat.lt_or_ge j (hi - lo) with h5 | h5
      · exact h5
      · rw [List.getElem?_eq_none (by rw [bcells_length, hl]; exact h5)] at hu; cases hu
    rw [if_neg (by omega)] at had
    simp only [Nat.mul_one, Option.map_some, add_plain, Option.some.injEq] at had
    subst had
    rw [bcells_at _ j (by rw [hl]; exact hj)] at hu
    injection hu with hu
    subst hu
    obtain ⟨g', off', he, hc⟩ := BSrc.at_ h (lo + j) (by omega)
    simp only [Option.some.injEq, Addr.mk.injEq, and_true] at he
    obtain ⟨rfl, rfl⟩ := he
    rw [add_plain, List.getElem_drop, List.getElem_take, Nat.add_assoc]
    exact hc
/-- the two slices at 32 bytes ahead of the end -/
theorem open_cuts {w : World} {A : Option Addr} {b : List UInt8} {c : Nat} (h : BSrc w A c b) (hc : b.length ≤ c) (n : Nat) (hn : b.length = n + 32) :
    ∃ A1 A2, BSrc w A1 c (b.take n) ∧ BSrc w A2 (c - n) (b.drop n) ∧
      (∀ wx, (Instr.slice 31 (.slice A b.length c) none (some (.int .i64 (n : Int))) none).run Try.prog wx = .ok (.slice A1 n c) wx) ∧
      (∀ wx, (Instr.slice 31 (.slice A b.length c) (some (.int .i64 (n : Int))) none none).run Try.prog wx = .ok (.slice A2 32 (c - n)) wx) := by
  obtain ⟨A1, hs1, hb1⟩ := h.cut 0 n c (Nat.zero_le _) (by omega) (by omega)
  obtain ⟨A2, hs2, hb2⟩ := h.cut n b.length c (by omega) (Nat.le_refl _) (by omega)
  have hb1 := hb1 hc
  have hb2 := hb2 hc
  rw [List.drop_zero, Nat.sub_zero] at hb1
  rw [List.take_length] at hb2
  have e32 : b.length - n = 32 := by omega
  refine ⟨A1, A2, hb1, hb2, fun wx => ?_, fun wx => ?_⟩
  · rw [run_slice_h (P := Try.prog) wx _ A b.length c (by kernel_rfl) _ _ (by omega) (by omega), size_u8]
    simp only [Result.andThen, Int.toNat_natCast, hs1, Nat.sub_zero]
  · rw [run_slice_l (P := Try.prog) wx _ A b.length c (by kernel_rfl) _ _ (by omega) (by omega), size_u8]
    simp only [Result.andThen, Int.toNat_natCast, hs2, e32]
set_option maxRecDepth 100000 in
set_option maxHeartbeats 4000000 in
theorem refright5 (k b t : List UInt8) (A A' A'' : Option Addr) (c c' c'' : Nat) (w : World) (hA : BSrc w A c k) (hm : k.length ≤ 140737488351232 - 200) (hA' : BSrc w A' c' b) (hb : b.length ≤ 140737488351232 - 200) (hA'' : BSrc w A'' c'' t) :
    Calls Try.prog 80 #[.slice A k.length c, .slice A' b.length c', .slice A'' t.length c''] w fun e w' => e = .returned (.bool (t == tagOf k b)) ∧ Below w.heap.size w w' := by
  have HA := Lib.hid hA
  have HA' := Lib.hid hA'
  have HA'' := Lib.hid (BSrc.at_ hA'')
  have hi32 : (Try.prog.info? 44).map (·.size) = some 32 := by kernel_rfl
  have HI32 := Lib.hid hi32
  have HTR := Lib.hid (fun (W : World) (h : BSrc W A c k) (h' : BSrc W A' c' b) => reftag k b A A' c c' W h hm h' hb)
  have HL := Lib.hid (tagOf_len k b)
  generalize tagOf k b = T at *
  have HSP : Hid ((bcells T).toArray.size = 32) := by unfold RowKit.Hid; rw [List.size_toArray, bcells_length, HL.out]
  have HONE := Lib.hid (cells_one32 T)
  obtain ⟨q, hq⟩ : ∃ q, q = (t == T) := ⟨_, rfl⟩
  rw [← hq]
  have HQ := Lib.hid hq
  clear hA hA' hA'' hi32 hq
  go_enter Try.func80, Try.ntmps80
  go_wp2_with fail
  refine (HTR.out _ HA.out HA'.out).mono ?_
  rintro e w1 ⟨rfl, hb1⟩
  have HB1 := Lib.hid hb1
  clear hb1
  go_upto_region 2 with (refine wpList_store_row rfl 44 (.tmp 7) (.tmp 10) rfl w1.heap.size (bcells T).toArray rfl rfl _ _ (heap_alloc_new _ _) (by rw [HI32.out, HSP.out]) (by rw [HSP.out]; rfl) HONE.out ?_)
  obtain ⟨W2, hW2⟩ : ∃ W2, W2 = (w1.alloc (.cells (Array.replicate 32 (.int .u8 0)) 44)).setRow w1.heap.size (bcells T).toArray := ⟨_, rfl⟩
  have HK2 : Hid (W2.heap[w1.heap.size]? = some (.cells (bcells T).toArray 44 (0, 0))) := by rw [hW2]; exact setRow_heap _ _ _ _ _ _ (heap_alloc_new _ _)
  have HB2 : Hid (Below w.heap.size w W2) := by rw [hW2]; exact below_setRow (HB1.out.alloc HB1.out.size _) HB1.out.size
  refine wp_congr_world (W1 := W2) hW2 ?_
  clear hW2
  refine wp_region_any (by kernel_rfl) ?_
  refine wpAny_ops (ops' := rrightOps) (by kernel_rfl) ?_
  refine rrightRegion _ W2 ?hs t T A'' c'' w1.heap.size HL.out HK2.out (HA''.out.below HB2.out (Nat.le_refl _)) rfl rfl ?_
  case hs => simp [Act.put]
  intro w5 hb5
  simp only [rrightSlots, List.foldl_cons, List.foldl_nil]
  simp only [rrightVal]
  simp only [Act.put, List.setIfInBounds_toArray, List.set_cons_zero, List.set_cons_succ]
  have HB5 := Lib.hid (HB2.out.trans (hb5.mono HB2.out.size))
  clear hb5
  rw [← HQ.out]
  go_wp2_with fail
  go_ret
  exact ⟨rfl, HB5.out⟩
end Go.Proofs.Ytjhopgmionpkoaa
namespace Go.Proofs.Ytjhopgmionpkoaa
set_option maxRecDepth 20000
open Go.RowKit Mem

set_option linter.unusedVariables false
noncomputable def mopenOps : Array Oper := findOps 4 ((Try.f37).body.getD (.exit 0))
def mopenSlots : List (Nat × Nat) := [(0, 14), (1, 15), (2, 16), (3, 17), (4, 18), (5, 19), (6, 20), (7, 21), (8, 22), (9, 13)]
def mopenVal (k b : List UInt8) (A A' A1 A2 : Option Addr) (c c' n c2 : Nat) (q : Bool) : Nat → Value
  | 0 => .slice A k.length c
  | 1 => .slice A' b.length c'
  | 2 => .int .i64 (n : Int)
  | 3 => .slice A1 n c'
  | 4 => .slice A' b.length c'
  | 5 => .int .i64 (n : Int)
  | 6 => .slice A2 32 c2
  | 7 => .bool q
  | 8 => .bool (!q)
  | _ => .bool (!q)
theorem mopenRegion {Q : Exit → Act → World → Prop} (a0 : Act) (W0 : World) (hs : 22 < a0.tmps.size) (k b : List UInt8) (A A' A1 A2 : Option Addr) (c c' n c2 : Nat) (q : Bool) (hs1 : ∀ wx, (Instr.slice 31 (.slice A' b.length c') none (some (.int .i64 (n : Int))) none).run Try.prog wx = .ok (.slice A1 n c') wx) (hs2 : ∀ wx, (Instr.slice 31 (.slice A' b.length c') (some (.int .i64 (n : Int))) none none).run Try.prog wx = .ok (.slice A2 32 c2) wx) (hr : ∀ W, Below W0.heap.size W0 W → Calls Try.prog 73 #[.slice A k.length c, .slice A1 n c', .slice A2 32 c2] W fun e w' => e = .returned (.bool q) ∧ Below W.heap.size W w')
    (e0 : a0.eval (.tmp 0) = .slice A k.length c)
    (e1 : a0.eval (.tmp 1) = .slice A' b.length c')
    (e6 : a0.eval (.tmp 6) = .int .i64 (n : Int))
    (hQ : ∀ w, Below W0.heap.size W0 w → Q .normal (mopenSlots.foldl (fun x p => x.put (some p.2) ((mopenVal k b A A' A1 A2 c c' n c2 q) p.1)) a0) w) :
    wpAny Try.prog .any mopenOps Q 10 (Array.replicate 10 false) a0 W0.drew := by
  have ok : slotsFix mopenSlots a0.tmps.size = true := by
    have : ∀ z, 22 < z → slotsFix mopenSlots z = true := by
      intro z hz
      simp [slotsFix, mopenSlots]
      omega
    exact this _ hs
  refine region_fixed (by kernel_rfl) W0 a0 mopenSlots (mopenVal k b A A' A1 A2 c c' n c2 q) ok (by kernel_rfl) 10 (by kernel_rfl) ?_ hQ
  intro i L a w h hi hneed
  rcases (show i = 0 ∨ i = 1 ∨ i = 2 ∨ i = 3 ∨ i = 4 ∨ i = 5 ∨ i = 6 ∨ i = 7 ∨ i = 8 ∨ i = 9 by omega) with rfl | rfl | rfl | rfl | rfl | rfl | rfl | rfl | rfl | rfl
  · exact fix_value (i := 0) (d := 14) rfl (wanted_none rfl) rfl (by decide) (x_move rfl ((h.old rfl).trans e0))
  · exact fix_value (i := 1) (d := 15) rfl (wanted_none rfl) rfl (by decide) (x_move rfl ((h.old rfl).trans e1))
  · exact fix_value (i := 2) (d := 16) rfl (wanted_none rfl) rfl (by decide) (x_move rfl ((h.old rfl).trans e6))
  · exact fix_value (i := 3) (d := 17) rfl (wanted_none rfl) rfl (by decide) (x_slice rfl (by kernel_rfl) (h.get 1 15 (by decide) (hneed 1 (by kernel_rfl))) rfl (congrArg some (h.get 2 16 (by decide) (hneed 2 (by kernel_rfl)))) (hs1 w))
  · exact fix_value (i := 4) (d := 18) rfl (wanted_none rfl) rfl (by decide) (x_move rfl ((h.old rfl).trans e1))
  · exact fix_value (i := 5) (d := 19) rfl (wanted_none rfl) rfl (by decide) (x_move rfl ((h.old rfl).trans e6))
  · exact fix_value (i := 6) (d := 20) rfl (wanted_none rfl) rfl (by decide) (x_slice rfl (by kernel_rfl) (h.get 4 18 (by decide) (hneed 4 (by kernel_rfl))) (congrArg some (h.get 5 19 (by decide) (hneed 5 (by kernel_rfl)))) rfl (hs2 w))
  · refine fix_call (i := 7) (d := 21) 73 Try.f73 #[.tmp 14, .tmp 17, .tmp 20] _ #[.slice A k.length c, .slice A1 n c', .slice A2 32 c2] rfl (wanted_none rfl) rfl (by decide) rfl (by simp [(h.get 0 14 (by decide) (hneed 0 (by kernel_rfl))), (h.get 3 17 (by decide) (hneed 3 (by kernel_rfl))), (h.get 6 20 (by decide) (hneed 6 (by kernel_rfl))), mopenVal]) Try.func73 (by kernel_rfl) (by kernel_rfl) ?_
    exact hr w h.below
  · exact fix_value (i := 8) (d := 22) rfl (wanted_none rfl) rfl (by decide) (x_not rfl (h.get 7 21 (by decide) (hneed 7 (by kernel_rfl))))
  · exact fix_value (i := 9) (d := 13) rfl (wanted_none rfl) rfl (by decide) (x_assign rfl (h.get 8 22 (by decide) (hneed 8 (by kernel_rfl))))
end Go.Proofs.Ytjhopgmionpkoaa
namespace Go.Proofs.Ytjhopgmionpkoaa
set_option maxRecDepth 20000
open Go.RowKit Mem

set_option linter.unusedVariables false
noncomputable def ropenOps : Array Oper := findOps 4 ((Try.f44).body.getD (.exit 0))
def ropenSlots : List (Nat × Nat) := [(0, 13), (1, 14), (2, 15), (3, 16), (4, 17), (5, 18), (6, 19), (7, 20), (8, 21)]
def ropenVal (k b : List UInt8) (A A' A1 A2 : Option Addr) (c c' n c2 : Nat) (q : Bool) : Nat → Value
  | 0 => .slice A k.length c
  | 1 => .slice A' b.length c'
  | 2 => .int .i64 (n : Int)
  | 3 => .slice A1 n c'
  | 4 => .slice A' b.length c'
  | 5 => .int .i64 (n : Int)
  | 6 => .slice A2 32 c2
  | 7 => .bool q
  | _ => .bool (!q)
theorem ropenRegion {Q : Exit → Act → World → Prop} (a0 : Act) (W0 : World) (hs : 21 < a0.tmps.size) (k b : List UInt8) (A A' A1 A2 : Option Addr) (c c' n c2 : Nat) (q : Bool) (hs1 : ∀ wx, (Instr.slice 31 (.slice A' b.length c') none (some (.int .i64 (n : Int))) none).run Try.prog wx = .ok (.slice A1 n c') wx) (hs2 : ∀ wx, (Instr.slice 31 (.slice A' b.length c') (some (.int .i64 (n : Int))) none none).run Try.prog wx = .ok (.slice A2 32 c2) wx) (hr : ∀ W, Below W0.heap.size W0 W → Calls Try.prog 80 #[.slice A k.length c, .slice A1 n c', .slice A2 32 c2] W fun e w' => e = .returned (.bool q) ∧ Below W.heap.size W w')
    (e0 : a0.eval (.tmp 0) = .slice A k.length c)
    (e1 : a0.eval (.tmp 1) = .slice A' b.length c')
    (e6 : a0.eval (.tmp 6) = .int .i64 (n : Int))
    (hQ : ∀ w, Below W0.heap.size W0 w → Q .normal (ropenSlots.foldl (fun x p => x.put (some p.2) ((ropenVal k b A A' A1 A2 c c' n c2 q) p.1)) a0) w) :
    wpAny Try.prog .any ropenOps Q 9 (Array.replicate 9 false) a0 W0.drew := by
  have ok : slotsFix ropenSlots a0.tmps.size = true := by
    have : ∀ z, 21 < z → slotsFix ropenSlots z = true := by
      intro z hz
      simp [slotsFix, ropenSlots]
      omega
    exact this _ hs
  refine region_fixed (by kernel_rfl) W0 a0 ropenSlots (ropenVal k b A A' A1 A2 c c' n c2 q) ok (by kernel_rfl) 9 (by kernel_rfl) ?_ hQ
  intro i L a w h hi hneed
  rcases (show i = 0 ∨ i = 1 ∨ i = 2 ∨ i = 3 ∨ i = 4 ∨ i = 5 ∨ i = 6 ∨ i = 7 ∨ i = 8 by omega) with rfl | rfl | rfl | rfl | rfl | rfl | rfl | rfl | rfl
  · exact fix_value (i := 0) (d := 13) rfl (wanted_none rfl) rfl (by decide) (x_move rfl ((h.old rfl).trans e0))
  · exact fix_value (i := 1) (d := 14) rfl (wanted_none rfl) rfl (by decide) (x_move rfl ((h.old rfl).trans e1))
  · exact fix_value (i := 2) (d := 15) rfl (wanted_none rfl) rfl (by decide) (x_move rfl ((h.old rfl).trans e6))
  · exact fix_value (i := 3) (d := 16) rfl (wanted_none rfl) rfl (by decide) (x_slice rfl (by kernel_rfl) (h.get 1 14 (by decide) (hneed 1 (by kernel_rfl))) rfl (congrArg some (h.get 2 15 (by decide) (hneed 2 (by kernel_rfl)))) (hs1 w))
  · exact fix_value (i := 4) (d := 17) rfl (wanted_none rfl) rfl (by decide) (x_move rfl ((h.old rfl).trans e1))
  · exact fix_value (i := 5) (d := 18) rfl (wanted_none rfl) rfl (by decide) (x_move rfl ((h.old rfl).trans e6))
  · exact fix_value (i := 6) (d := 19) rfl (wanted_none rfl) rfl (by decide) (x_slice rfl (by kernel_rfl) (h.get 4 17 (by decide) (hneed 4 (by kernel_rfl))) (congrArg some (h.get 5 18 (by decide) (hneed 5 (by kernel_rfl)))) rfl (hs2 w))
  · refine fix_call (i := 7) (d := 20) 80 Try.f80 #[.tmp 13, .tmp 16, .tmp 19] _ #[.slice A k.length c, .slice A1 n c', .slice A2 32 c2] rfl (wanted_none rfl) rfl (by decide) rfl (by simp [(h.get 0 13 (by decide) (hneed 0 (by kernel_rfl))), (h.get 3 16 (by decide) (hneed 3 (by kernel_rfl))), (h.get 6 19 (by decide) (hneed 6 (by kernel_rfl))), ropenVal]) Try.func80 (by kernel_rfl) (by kernel_rfl) ?_
    exact hr w h.below
  · exact fix_value (i := 8) (d := 21) rfl (wanted_none rfl) rfl (by decide) (x_not rfl (h.get 7 20 (by decide) (hneed 7 (by kernel_rfl))))
end Go.Proofs.Ytjhopgmionpkoaa
namespace Go.Proofs.Ytjhopgmionpkoaa
set_option maxRecDepth 20000
open Go.RowKit Mem

theorem BSrc.pre {w : World} {A : Option Addr} {b : List UInt8} {c : Nat} (h : BSrc w A c b) (n : Nat) (hn : n ≤ b.length) (h0 : 0 < b.length) : Src w A n c (bcells (b.take n)) 1 :=
  ⟨by rw [bcells_length, List.length_take]; omega, fun hA => by have := (h.none hA).1; omega, fun ad had j u hu => h.some ad had j u (by
    unfold bcells at hu ⊢
    rw [List.map_take] at hu
    rw [List.getElem?_take] at hu
    split at hu
    · exact hu
    · cases hu)⟩
/-- what comes of opening bytes whose tag is right or not -/
def Opened (w w' : World) (e : Ending) (q : Bool) (n : Nat) (x : List UInt8) : Prop :=
  match q with
  | true => ∃ v, e = .returned (.tuple #[v, .int .i64 0]) ∧ w'.ownsRow w.heap.size 5 1 v n (bcells x)
  | false => e = .returned (.tuple #[.slice none 0 0, .int .i64 6])
set_option maxRecDepth 100000 in
set_option maxHeartbeats 4000000 in
theorem macopen (k b : List UInt8) (A A' : Option Addr) (c c' : Nat) (w : World) (hA : BSrc w A c k) (hc : k.length ≤ c) (hm : k.length ≤ 140737488351232) (hm2 : c ≤ 9223372036854775807) (hA' : BSrc w A' c' b) (hb : b.length ≤ 140737488351232 - 200) (hbc : b.length ≤ c') (n : Nat) (hn : b.length = n + 32) :
    Calls Try.prog 37 #[.slice A k.length c, .slice A' b.length c'] w fun e w' => Opened w w' e (b.drop n == tagOf k (b.take n)) n (b.take n) ∧ Below w.heap.size w w' := by
  obtain ⟨A1, A2, hb1, hb2, hs1, hs2⟩ := open_cuts hA' hbc n hn
  have HA := Lib.hid hA
  have HA' := Lib.hid hA'
  have HS1 := Lib.hid hb1
  have HS2 := Lib.hid hs2
  have hl1 : (b.take n).length = n := by rw [List.length_take]; omega
  have hl2 : (b.drop n).length = 32 := by rw [List.length_drop]; omega
  have HR : Hid (∀ W, Below w.heap.size w W → Calls Try.prog 73 #[.slice A k.length c, .slice A1 n c', .slice A2 32 (c' - n)] W fun e w' => e = .returned (.bool (b.drop n == tagOf k (b.take n))) ∧ Below W.heap.size W w') := fun W h => by
    have := macright k (b.take n) (b.drop n) A A1 A2 c c' (c' - n) W (hA.below h (Nat.le_refl _)) hc hm hm2 (hb1.below h (Nat.le_refl _)) (by rw [hl1]; omega) (hb2.below h (Nat.le_refl _)) (by rw [hl2]; decide)
    rw [hl1, hl2] at this
    exact this
  generalize (b.drop n == tagOf k (b.take n)) = q at *
  have HL1 := Lib.hid hl1
  have HX1 : Hid (Src w A' n c' (bcells (b.take n)) 1) := hA'.pre n (by omega) (by omega)
  clear hA hA' hb1 hb2 hl1 hl2 hs2
  generalize b.take n = x at *
  obtain ⟨i0, hi, hi0, hi1, hi2⟩ := info_parts infoByte
  have hbl : (b.length : Int) - 32 = (n : Int) := by omega
  have hge : ¬ ((n : Int) < 0) := by omega
  go_enter Try.func37, Try.ntmps37
  go_upto_region 4 with fail
  try rw [hbl]
  refine wp_region_any (by kernel_rfl) ?_
  refine wpAny_ops (ops' := mopenOps) (by kernel_rfl) ?_
  refine mopenRegion _ w ?hs k b A A' A1 A2 c c' n (c' - n) q hs1 HS2.out HR.out rfl rfl rfl ?_
  case hs => simp
  intro w5 hb5
  simp only [mopenSlots, List.foldl_cons, List.foldl_nil]
  simp only [mopenVal]
  simp only [Act.put, List.setIfInBounds_toArray, List.set_cons_zero, List.set_cons_succ]
  have HB5 := Lib.hid hb5
  clear hb5
  cases q with
  | false =>
    go_wp2_with fail
    go_ret2
    exact ⟨rfl, HB5.out⟩
  | true =>
    go_wp2_with (at_builtin; refine wpList_app_any rfl (.const (.slice none 0 0)) (.tmp 25) 31 rfl w.heap.size 5 i0 (.int .u8 0) 1 1 Try.underlying31 hi hi0 hi1 hi2 rfl (by decide) (.slice none 0 0) 0 [] rfl (World.ownsRow_nil _ _ _ _) A' n c' (bcells x) rfl (HX1.out.below HB5.out (Nat.le_refl _)) (bcells_one x) ?c3 ?c4 HB5.out.size ?_)
    case c3 => unfold maxLen; omega
    case c4 => omega
    intro v1 w6 hown1 hg1
    have HB6 : Hid (Below w.heap.size w w6) := HB5.out.trans (below_of_grown hg1 HB5.out.size (fun g hg => by cases hg))
    try simp only [Nat.zero_add, List.nil_append] at hown1
    have HO1 := Lib.hid hown1
    clear hown1 hg1
    go_wp2_with fail
    go_ret2
    exact ⟨⟨_, rfl, HO1.out⟩, HB6.out⟩
set_option maxRecDepth 100000 in
set_option maxHeartbeats 4000000 in
theorem refopen (k b : List UInt8) (A A' : Option Addr) (c c' : Nat) (w : World) (hA : BSrc w A c k) (hm : k.length ≤ 140737488351232 - 200) (hA' : BSrc w A' c' b) (hb : b.length ≤ 140737488351232 - 200) (hbc : b.length ≤ c') (n : Nat) (hn : b.length = n + 32) :
    Calls Try.prog 44 #[.slice A k.length c, .slice A' b.length c'] w fun e w' => Opened w w' e (b.drop n == tagOf k (b.take n)) n (b.take n) ∧ Below w.heap.size w w' := by
  obtain ⟨A1, A2, hb1, hb2, hs1, hs2⟩ := open_cuts hA' hbc n hn
  have HA := Lib.hid hA
  have HA' := Lib.hid hA'
  have HS1 := Lib.hid hb1
  have HS2 := Lib.hid hs2
  have hl1 : (b.take n).length = n := by rw [List.length_take]; omega
  have hl2 : (b.drop n).length = 32 := by rw [List.length_drop]; omega
  have HR : Hid (∀ W, Below w.heap.size w W → Calls Try.prog 80 #[.slice A k.length c, .slice A1 n c', .slice A2 32 (c' - n)] W fun e w' => e = .returned (.bool (b.drop n == tagOf k (b.take n))) ∧ Below W.heap.size W w') := fun W h => by
    have := refright5 k (b.take n) (b.drop n) A A1 A2 c c' (c' - n) W (hA.below h (Nat.le_refl _)) hm (hb1.below h (Nat.le_refl _)) (by rw [hl1]; omega) (hb2.below h (Nat.le_refl _))
    rw [hl1, hl2] at this
    exact this
  generalize (b.drop n == tagOf k (b.take n)) = q at *
  have HL1 := Lib.hid hl1
  have HX1 : Hid (Src w A' n c' (bcells (b.take n)) 1) := hA'.pre n (by omega) (by omega)
  clear hA hA' hb1 hb2 hl1 hl2 hs2
  generalize b.take n = x at *
  obtain ⟨i0, hi, hi0, hi1, hi2⟩ := info_parts infoByte
  have hbl : (b.length : Int) - 32 = (n : Int) := by omega
  have hge : ¬ ((n : Int) < 0) := by omega
  go_enter Try.func44, Try.ntmps44
  go_upto_region 4 with fail
  try rw [hbl]
  refine wp_region_any (by kernel_rfl) ?_
  refine wpAny_ops (ops' := ropenOps) (by kernel_rfl) ?_
  refine ropenRegion _ w ?hs k b A A' A1 A2 c c' n (c' - n) q hs1 HS2.out HR.out rfl rfl rfl ?_
  case hs => simp
  intro w5 hb5
  simp only [ropenSlots, List.foldl_cons, List.foldl_nil]
  simp only [ropenVal]
  simp only [Act.put, List.setIfInBounds_toArray, List.set_cons_zero, List.set_cons_succ]
  have HB5 := Lib.hid hb5
  clear hb5
  cases q with
  | false =>
    go_wp2_with fail
    go_ret2
    exact ⟨rfl, HB5.out⟩
  | true =>
    go_wp2_with (at_builtin; refine wpList_app_any rfl (.tmp 22) (.tmp 25) 31 rfl w.heap.size 5 i0 (.int .u8 0) 1 1 Try.underlying31 hi hi0 hi1 hi2 rfl (by decide) (.slice none 0 0) 0 [] rfl (World.ownsRow_nil _ _ _ _) A' n c' (bcells x) rfl (HX1.out.below HB5.out (Nat.le_refl _)) (bcells_one x) ?c3 ?c4 HB5.out.size ?_)
    case c3 => unfold maxLen; omega
    case c4 => omega
    intro v1 w6 hown1 hg1
    have HB6 : Hid (Below w.heap.size w w6) := HB5.out.trans (below_of_grown hg1 HB5.out.size (fun g hg => by cases hg))
    try simp only [Nat.zero_add, List.nil_append] at hown1
    have HO1 := Lib.hid hown1
    clear hown1 hg1
    go_wp2_with fail
    go_ret2
    exact ⟨⟨_, rfl, HO1.out⟩, HB6.out⟩
set_option maxRecDepth 100000 in
set_option maxHeartbeats 4000000 in
theorem refopen_short (v : Value) (n c : Nat) (A : Option Addr) (w : World) (hn : n < 32) :
    Calls Try.prog 44 #[v, .slice A n c] w fun e w' => e = .returned (.tuple #[.slice none 0 0, .int .i64 2]) ∧ w = w' := by
  go_enter Try.func44, Try.ntmps44
  go_wp2_with fail
  go_ret2
  exact ⟨rfl, rfl⟩
end Go.Proofs.Ytjhopgmionpkoaa
namespace Go.Proofs.Ytjhopgmionpkoaa
set_option maxRecDepth 20000
open Go.RowKit Mem

section
variable {P : Program} {w : World} {a : Act} {o : Oper}
theorem x_neq_str5 {x y : Operand} {t t2 : TypeId} {s r : ByteArray} (ho : o.op = .binOp .neq t x y t2) (hx : a.eval x = .string s) (hy : a.eval y = .string r) : (execOp a.eval o).run P w = .ok (.value (.bool (!(s.toList == r.toList)))) w := by
  unfold execOp
  simp only [ho, hx, hy]
  rw [binOp_string_neq]
  rfl
theorem x_neq_str2 {x y : Operand} {t t2 : TypeId} {s r : List UInt8} (ho : o.op = .binOp .neq t x y t2) (hx : a.eval x = .string ⟨s.toArray⟩) (hy : a.eval y = .string ⟨r.toArray⟩) : (execOp a.eval o).run P w = .ok (.value (.bool (!(s == r)))) w := by
  rw [x_neq_str5 ho hx hy, str_eq]
end
theorem beq_comm_b (s r : List UInt8) : (s == r) = (r == s) := by
  by_cases h : s = r
  · subst h; rfl
  · rw [beq_eq_false_iff_ne.2 h, beq_eq_false_iff_ne.2 (fun e => h e.symm)]
end Go.Proofs.Ytjhopgmionpkoaa
