/-
  A drawn statement of MacSeals, whatever the order.
-/
import Derived.Test.YtofjfpnkdcpngaaRegChain
import Derived.Test.YtofjfpnkdcpngaaMacZ
import Derived.Test.YtofjfpnkdcpngaaRegFix
namespace Go.Proofs.Ytofjfpnkdcpngaa
open Go.RowKit Mem

set_option linter.unusedVariables false
noncomputable def mslOps : Array Oper := findOps 7 ((Try.f7).body.getD (.exit 0))
def mslSlots : List (Nat × Nat) := [(0, 45), (1, 46), (2, 47), (3, 48), (5, 50), (6, 51), (7, 52), (8, 53), (9, 54), (10, 55), (11, 56), (12, 57), (13, 58), (14, 59), (15, 60), (16, 61), (17, 62), (18, 63), (19, 64), (20, 65), (21, 66), (22, 67), (23, 68), (24, 69), (25, 70), (26, 71), (27, 72), (28, 73), (29, 74), (30, 13)]
def mslCh : List (Nat × Option Nat) := [(4, some 49)]
def mslVal (k b tg fin : List UInt8) (A A' A'' A8 : Option Addr) (c c' c'' c8 n8 : Nat) (vy vz : Value) (sy : ByteArray) (ee : Int) (q : Bool) : Nat → Value
  | 0 => .slice A8 n8 c8
  | 1 => .string ⟨fin.toArray⟩
  | 2 => .slice A k.length c
  | 3 => .slice A' b.length c'
  | 5 => .string ⟨fin.toArray⟩
  | 6 => .bool true
  | 7 => .bool true
  | 8 => vy
  | 9 => .string sy
  | 10 => vz
  | 11 => .string sy
  | 12 => .bool true
  | 13 => .bool true
  | 14 => .bool true
  | 15 => .int .i64 ee
  | 16 => .int .i64 ee
  | 17 => .bool true
  | 18 => .bool true
  | 19 => .bool true
  | 20 => .slice A k.length c
  | 21 => .slice A' b.length c'
  | 22 => .slice A'' tg.length c''
  | 23 => .bool q
  | 24 => .slice A k.length c
  | 25 => .slice A' b.length c'
  | 26 => .slice A'' tg.length c''
  | 27 => .bool q
  | 28 => .bool true
  | 29 => .bool true
  | _ => .bool true
def MslC (n8 : Nat) (fin : List UInt8) (L : Nat → Bool) (vs : Nat → Value) (w : World) : Prop := L 4 = true → ∃ A c, vs 49 = .slice A n8 c ∧ BytesAt w A fin
theorem mslRegion {Q : Exit → Act → World → Prop} (a0 : Act) (W0 : World) (hs : 74 < a0.tmps.size) (k b tg fin : List UInt8) (A A' A'' A8 : Option Addr) (c c' c'' c8 n8 : Nat) (hn8 : fin.length = n8) (vy vz : Value) (sy : ByteArray) (ee : Int) (q : Bool) (h8 : BytesAt W0 A8 fin) (hy : ∀ w, Below W0.heap.size W0 w → (convert 22 9 vy).run Try.prog w = .ok (.string sy) w) (hz : ∀ w, Below W0.heap.size W0 w → (convert 22 9 vz).run Try.prog w = .ok (.string sy) w) (hse : ∀ W, Below W0.heap.size W0 W → Calls Try.prog 21 #[.slice A k.length c, .slice A' b.length c'] W fun e w' => ∃ A9 c9, e = .returned (.slice A9 n8 c9) ∧ BytesAt w' A9 fin ∧ Below W.heap.size W w') (hr1 : ∀ W, Below W0.heap.size W0 W → Calls Try.prog 17 #[.slice A k.length c, .slice A' b.length c', .slice A'' tg.length c''] W fun e w' => e = .returned (.bool q) ∧ Below W.heap.size W w') (hr2 : ∀ W, Below W0.heap.size W0 W → Calls Try.prog 22 #[.slice A k.length c, .slice A' b.length c', .slice A'' tg.length c''] W fun e w' => e = .returned (.bool q) ∧ Below W.heap.size W w')
    (e0 : a0.eval (.tmp 0) = .slice A k.length c)
    (e1 : a0.eval (.tmp 1) = .slice A' b.length c')
    (e2 : a0.eval (.tmp 2) = .slice A'' tg.length c'')
    (e8 : a0.eval (.tmp 8) = .slice A8 n8 c8)
    (e9 : a0.eval (.tmp 9) = vy)
    (e10 : a0.eval (.tmp 10) = .int .i64 ee)
    (e11 : a0.eval (.tmp 11) = vz)
    (e12 : a0.eval (.tmp 12) = .int .i64 ee)
    (hQ : ∀ (vs : Nat → Value) w, Below W0.heap.size W0 w → (MslC n8 fin) (fun _ => true) vs w → Q .normal (mslSlots.foldl (fun x p => x.put (some p.2) ((mslVal k b tg fin A A' A'' A8 c c' c'' c8 n8 vy vz sy ee q) p.1)) ([49].foldl (fun x d => x.put (some d) (vs d)) a0)) w) :
    wpAny Try.prog .any mslOps Q 31 (Array.replicate 31 false) a0 W0.drew := by
  have ok : slotsFix mslSlots a0.tmps.size = true := by
    have : ∀ z, 74 < z → slotsFix mslSlots z = true := by
      intro z hz
      simp [slotsFix, mslSlots]
      try omega
    exact this _ hs
  have okc : chainOk mslSlots mslCh a0.tmps.size = true := by
    have : ∀ z, 74 < z → chainOk mslSlots mslCh z = true := by
      intro z hz
      simp [chainOk, mslSlots, mslCh]
      try omega
    exact this _ hs
  have cv : ∀ w A c, BytesAt w A fin → (convert 22 9 (.slice A n8 c)).run Try.prog w = .ok (.string ⟨fin.toArray⟩) w := fun w A c h => by have := conv_bytes w A c fin h; rw [hn8] at this; exact this
  refine region_chain (by kernel_rfl) W0 a0 mslSlots (mslVal k b tg fin A A' A'' A8 c c' c'' c8 n8 vy vz sy ee q) mslCh (MslC n8 fin) ok okc 31 (by kernel_rfl) (by kernel_rfl) (by kernel_rfl) (fun L L' vs w h hc h4 => hc ((h (4, some 49) (by decide)).trans h4)) (fun L vs w w' hc hb h4 => by obtain ⟨A, c, e, hb'⟩ := hc h4; exact ⟨A, c, e, hb'.below hb (Nat.le_refl _)⟩) (fun h => by cases h) ?_ (fun vs w hb hc => hQ vs w hb hc)
  intro a1 i L a w hev h hc hi hf hneed
  replace e0 := (hev 0 rfl).trans e0
  replace e1 := (hev 1 rfl).trans e1
  replace e2 := (hev 2 rfl).trans e2
  replace e8 := (hev 8 rfl).trans e8
  replace e9 := (hev 9 rfl).trans e9
  replace e10 := (hev 10 rfl).trans e10
  replace e11 := (hev 11 rfl).trans e11
  replace e12 := (hev 12 rfl).trans e12
  rcases (show i = 0 ∨ i = 1 ∨ i = 2 ∨ i = 3 ∨ i = 4 ∨ i = 5 ∨ i = 6 ∨ i = 7 ∨ i = 8 ∨ i = 9 ∨ i = 10 ∨ i = 11 ∨ i = 12 ∨ i = 13 ∨ i = 14 ∨ i = 15 ∨ i = 16 ∨ i = 17 ∨ i = 18 ∨ i = 19 ∨ i = 20 ∨ i = 21 ∨ i = 22 ∨ i = 23 ∨ i = 24 ∨ i = 25 ∨ i = 26 ∨ i = 27 ∨ i = 28 ∨ i = 29 ∨ i = 30 by omega) with rfl | rfl | rfl | rfl | rfl | rfl | rfl | rfl | rfl | rfl | rfl | rfl | rfl | rfl | rfl | rfl | rfl | rfl | rfl | rfl | rfl | rfl | rfl | rfl | rfl | rfl | rfl | rfl | rfl | rfl | rfl
  · refine .inl ?_
    exact fix_value (i := 0) (d := 45) rfl (wanted_none rfl) rfl (by decide) (x_move rfl ((h.old rfl).trans e8))
  · refine .inl ?_
    exact fix_value (i := 1) (d := 46) rfl (wanted_none rfl) rfl (by decide) (x_conv rfl (h.get 0 45 (by decide) (hneed 0 (by kernel_rfl))) (cv w _ _ (h8.below h.below (Nat.le_refl _))))
  · refine .inl ?_
    exact fix_value (i := 2) (d := 47) rfl (wanted_none rfl) rfl (by decide) (x_move rfl ((h.old rfl).trans e0))
  · refine .inl ?_
    exact fix_value (i := 3) (d := 48) rfl (wanted_none rfl) rfl (by decide) (x_move rfl ((h.old rfl).trans e1))
  · refine .inr ?_
    refine ⟨some 49, by decide, ch_call (i := 4) 21 Try.f21 #[.tmp 47, .tmp 48] _ #[.slice A k.length c, .slice A' b.length c'] rfl (wanted_none rfl) rfl (by simp [(h.get 2 47 (by decide) (hneed 2 (by kernel_rfl))), (h.get 3 48 (by decide) (hneed 3 (by kernel_rfl))), mslVal]) Try.func21 (by kernel_rfl) (by kernel_rfl) ?_⟩
    refine (hse w h.below).mono ?_
    rintro e w' ⟨A9, c9, rfl, hb9, hbw⟩
    exact ⟨_, rfl, _, rfl, h.below.trans (hbw.mono h.below.size), fun _ => ⟨A9, c9, if_pos rfl, hb9⟩⟩
  · refine .inl ?_
    exact fix_value (i := 5) (d := 50) rfl (wanted_none rfl) rfl (by decide) (by obtain ⟨A9, c9, e9', hb9⟩ := hc (hneed 4 (by kernel_rfl)); exact x_conv rfl ((h.old rfl).trans e9') (cv w _ _ hb9))
  · refine .inl ?_
    exact fix_value (i := 6) (d := 51) rfl (wanted_none rfl) rfl (by decide) (x_eql_true_str rfl (h.get 1 46 (by decide) (hneed 1 (by kernel_rfl))) (h.get 5 50 (by decide) (hneed 5 (by kernel_rfl))))
  · refine .inl ?_
    exact fix_value (i := 7) (d := 52) rfl (wanted_none rfl) rfl (by decide) (x_move rfl (h.get 6 51 (by decide) (hneed 6 (by kernel_rfl))))
  · refine .inl ?_
    exact fix_value (i := 8) (d := 53) rfl (wanted_some rfl rfl rfl (h.get 7 52 (by decide) (hneed 7 (by kernel_rfl)))) rfl (by decide) (x_move rfl ((h.old rfl).trans e9))
  · refine .inl ?_
    exact fix_value (i := 9) (d := 54) rfl (wanted_some rfl rfl rfl (h.get 7 52 (by decide) (hneed 7 (by kernel_rfl)))) rfl (by decide) (x_conv rfl (h.get 8 53 (by decide) (hneed 8 (by kernel_rfl))) (hy w h.below))
  · refine .inl ?_
    exact fix_value (i := 10) (d := 55) rfl (wanted_some rfl rfl rfl (h.get 7 52 (by decide) (hneed 7 (by kernel_rfl)))) rfl (by decide) (x_move rfl ((h.old rfl).trans e11))
  · refine .inl ?_
    exact fix_value (i := 11) (d := 56) rfl (wanted_some rfl rfl rfl (h.get 7 52 (by decide) (hneed 7 (by kernel_rfl)))) rfl (by decide) (x_conv rfl (h.get 10 55 (by decide) (hneed 10 (by kernel_rfl))) (hz w h.below))
  · refine .inl ?_
    exact fix_value (i := 12) (d := 57) rfl (wanted_some rfl rfl rfl (h.get 7 52 (by decide) (hneed 7 (by kernel_rfl)))) rfl (by decide) (x_eql_true_str rfl (h.get 9 54 (by decide) (hneed 9 (by kernel_rfl))) (h.get 11 56 (by decide) (hneed 11 (by kernel_rfl))))
  · refine .inl ?_
    exact fix_value (i := 13) (d := 58) rfl (wanted_none rfl) rfl (by decide) (x_pick_t rfl (h.get 7 52 (by decide) (hneed 7 (by kernel_rfl))) (h.get 12 57 (by decide) (hneed 12 (by kernel_rfl))))
  · refine .inl ?_
    exact fix_value (i := 14) (d := 59) rfl (wanted_none rfl) rfl (by decide) (x_move rfl (h.get 13 58 (by decide) (hneed 13 (by kernel_rfl))))
  · refine .inl ?_
    exact fix_value (i := 15) (d := 60) rfl (wanted_some rfl rfl rfl (h.get 14 59 (by decide) (hneed 14 (by kernel_rfl)))) rfl (by decide) (x_move rfl ((h.old rfl).trans e10))
  · refine .inl ?_
    exact fix_value (i := 16) (d := 61) rfl (wanted_some rfl rfl rfl (h.get 14 59 (by decide) (hneed 14 (by kernel_rfl)))) rfl (by decide) (x_move rfl ((h.old rfl).trans e12))
  · refine .inl ?_
    exact fix_value (i := 17) (d := 62) rfl (wanted_some rfl rfl rfl (h.get 14 59 (by decide) (hneed 14 (by kernel_rfl)))) rfl (by decide) (x_eql_true_int rfl (h.get 15 60 (by decide) (hneed 15 (by kernel_rfl))) (h.get 16 61 (by decide) (hneed 16 (by kernel_rfl))))
  · refine .inl ?_
    exact fix_value (i := 18) (d := 63) rfl (wanted_none rfl) rfl (by decide) (x_pick_t rfl (h.get 14 59 (by decide) (hneed 14 (by kernel_rfl))) (h.get 17 62 (by decide) (hneed 17 (by kernel_rfl))))
  · refine .inl ?_
    exact fix_value (i := 19) (d := 64) rfl (wanted_none rfl) rfl (by decide) (x_move rfl (h.get 18 63 (by decide) (hneed 18 (by kernel_rfl))))
  · refine .inl ?_
    exact fix_value (i := 20) (d := 65) rfl (wanted_some rfl rfl rfl (h.get 19 64 (by decide) (hneed 19 (by kernel_rfl)))) rfl (by decide) (x_move rfl ((h.old rfl).trans e0))
  · refine .inl ?_
    exact fix_value (i := 21) (d := 66) rfl (wanted_some rfl rfl rfl (h.get 19 64 (by decide) (hneed 19 (by kernel_rfl)))) rfl (by decide) (x_move rfl ((h.old rfl).trans e1))
  · refine .inl ?_
    exact fix_value (i := 22) (d := 67) rfl (wanted_some rfl rfl rfl (h.get 19 64 (by decide) (hneed 19 (by kernel_rfl)))) rfl (by decide) (x_move rfl ((h.old rfl).trans e2))
  · refine .inl ?_
    refine fix_call (i := 23) (d := 68) 17 Try.f17 #[.tmp 65, .tmp 66, .tmp 67] _ #[.slice A k.length c, .slice A' b.length c', .slice A'' tg.length c''] rfl (wanted_some rfl rfl rfl (h.get 19 64 (by decide) (hneed 19 (by kernel_rfl)))) rfl (by decide) rfl (by simp [(h.get 20 65 (by decide) (hneed 20 (by kernel_rfl))), (h.get 21 66 (by decide) (hneed 21 (by kernel_rfl))), (h.get 22 67 (by decide) (hneed 22 (by kernel_rfl))), mslVal]) Try.func17 (by kernel_rfl) (by kernel_rfl) ?_
    exact hr1 w h.below
  · refine .inl ?_
    exact fix_value (i := 24) (d := 69) rfl (wanted_some rfl rfl rfl (h.get 19 64 (by decide) (hneed 19 (by kernel_rfl)))) rfl (by decide) (x_move rfl ((h.old rfl).trans e0))
  · refine .inl ?_
    exact fix_value (i := 25) (d := 70) rfl (wanted_some rfl rfl rfl (h.get 19 64 (by decide) (hneed 19 (by kernel_rfl)))) rfl (by decide) (x_move rfl ((h.old rfl).trans e1))
  · refine .inl ?_
    exact fix_value (i := 26) (d := 71) rfl (wanted_some rfl rfl rfl (h.get 19 64 (by decide) (hneed 19 (by kernel_rfl)))) rfl (by decide) (x_move rfl ((h.old rfl).trans e2))
  · refine .inl ?_
    refine fix_call (i := 27) (d := 72) 22 Try.f22 #[.tmp 69, .tmp 70, .tmp 71] _ #[.slice A k.length c, .slice A' b.length c', .slice A'' tg.length c''] rfl (wanted_some rfl rfl rfl (h.get 19 64 (by decide) (hneed 19 (by kernel_rfl)))) rfl (by decide) rfl (by simp [(h.get 24 69 (by decide) (hneed 24 (by kernel_rfl))), (h.get 25 70 (by decide) (hneed 25 (by kernel_rfl))), (h.get 26 71 (by decide) (hneed 26 (by kernel_rfl))), mslVal]) Try.func22 (by kernel_rfl) (by kernel_rfl) ?_
    exact hr2 w h.below
  · refine .inl ?_
    exact fix_value (i := 28) (d := 73) rfl (wanted_some rfl rfl rfl (h.get 19 64 (by decide) (hneed 19 (by kernel_rfl)))) rfl (by decide) (((x_eql_bool Try.underlying4 rfl (h.get 23 68 (by decide) (hneed 23 (by kernel_rfl))) (h.get 27 72 (by decide) (hneed 27 (by kernel_rfl)))).trans (by rw [beq_self_eq_true]; rfl)))
  · refine .inl ?_
    exact fix_value (i := 29) (d := 74) rfl (wanted_none rfl) rfl (by decide) (x_pick_t rfl (h.get 19 64 (by decide) (hneed 19 (by kernel_rfl))) (h.get 28 73 (by decide) (hneed 28 (by kernel_rfl))))
  · refine .inl ?_
    exact fix_value (i := 30) (d := 13) rfl (wanted_none rfl) rfl (by decide) (x_assign rfl (h.get 29 74 (by decide) (hneed 29 (by kernel_rfl))))
end Go.Proofs.Ytofjfpnkdcpngaa
