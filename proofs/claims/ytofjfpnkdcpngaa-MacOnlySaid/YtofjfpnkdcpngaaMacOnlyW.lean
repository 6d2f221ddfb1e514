/-
  A drawn statement of MacOnly, whatever the order.
  A drawn statement of MacOnly, whatever the order.
  A drawn statement of MacOnly, whatever the order.
  The walk of the law MacOnly: what is opened ends with the tag of what was opened; what is not opened does not.
-/
import Derived.Test.YtofjfpnkdcpngaaMacZ
import Derived.Test.YtofjfpnkdcpngaaRegFix
namespace Go.Proofs.Ytofjfpnkdcpngaa
open Go.RowKit Mem

set_option linter.unusedVariables false
noncomputable def mon8Ops : Array Oper := findOps 8 ((Try.f4).body.getD (.exit 0))
def mon8Slots : List (Nat × Nat) := [(0, 45), (1, 46), (2, 47), (3, 48), (4, 49), (5, 50), (6, 51)]
def mon8Val (b T : List UInt8) (A' A2 : Option Addr) (c' n c2 g : Nat) : Nat → Value
  | 0 => .slice (some ⟨g, 0, none⟩) 32 32
  | 1 => .string ⟨T.toArray⟩
  | 2 => .slice A' b.length c'
  | 3 => .int .i64 (n : Int)
  | 4 => .slice A2 32 c2
  | 5 => .string ⟨(b.drop n).toArray⟩
  | _ => .bool (!(T == b.drop n))
theorem mon8Region {Q : Exit → Act → World → Prop} (a0 : Act) (W0 : World) (hs : 51 < a0.tmps.size) (b T : List UInt8) (A' A2 : Option Addr) (c' n c2 g : Nat) (hT : T.length = 32) (hD : (b.drop n).length = 32) (hr : W0.heap[g]? = some (.cells (bcells T).toArray 27 (0, 0))) (hs2 : ∀ wx, (Instr.slice 22 (.slice A' b.length c') (some (.int .i64 (n : Int))) none none).run Try.prog wx = .ok (.slice A2 32 c2) wx) (h2 : BSrc W0 A2 c2 (b.drop n))
    (e1 : a0.eval (.tmp 1) = .slice A' b.length c')
    (e7 : a0.eval (.tmp 7) = .int .i64 (n : Int))
    (e8 : a0.eval (.tmp 8) = .pointer (some ⟨g, 0, none⟩))
    (hQ : ∀ w, Below W0.heap.size W0 w → Q .normal (mon8Slots.foldl (fun x p => x.put (some p.2) ((mon8Val b T A' A2 c' n c2 g) p.1)) a0) w) :
    wpAny Try.prog .any mon8Ops Q 7 (Array.replicate 7 false) a0 W0.drew := by
  have ok : slotsFix mon8Slots a0.tmps.size = true := by
    have : ∀ z, 51 < z → slotsFix mon8Slots z = true := by
      intro z hz
      simp [slotsFix, mon8Slots]
      omega
    exact this _ hs
  have hgl : g < W0.heap.size := (Array.getElem?_eq_some_iff.1 hr).1
  have cv : ∀ w A c l, l.length = 32 → BytesAt w A l → (convert 22 9 (.slice A 32 c)).run Try.prog w = .ok (.string ⟨l.toArray⟩) w := fun w A c l hl h => by have := conv_bytes w A c l h; rw [hl] at this; exact this
  refine region_fixed (by kernel_rfl) W0 a0 mon8Slots (mon8Val b T A' A2 c' n c2 g) ok (by kernel_rfl) 7 (by kernel_rfl) ?_ hQ
  intro i L a w h hi hneed
  rcases (show i = 0 ∨ i = 1 ∨ i = 2 ∨ i = 3 ∨ i = 4 ∨ i = 5 ∨ i = 6 by omega) with rfl | rfl | rfl | rfl | rfl | rfl | rfl
  · exact fix_value (i := 0) (d := 45) rfl (wanted_none rfl) rfl (by decide) (x_slice_row rfl ((h.old rfl).trans e8) (by kernel_rfl))
  · exact fix_value (i := 1) (d := 46) rfl (wanted_none rfl) rfl (by decide) (x_conv rfl (h.get 0 45 (by decide) (hneed 0 (by kernel_rfl))) (cv w _ _ _ hT (row_bytes ((h.below.block _ hgl).trans hr))))
  · exact fix_value (i := 2) (d := 47) rfl (wanted_none rfl) rfl (by decide) (x_move rfl ((h.old rfl).trans e1))
  · exact fix_value (i := 3) (d := 48) rfl (wanted_none rfl) rfl (by decide) (x_move rfl ((h.old rfl).trans e7))
  · exact fix_value (i := 4) (d := 49) rfl (wanted_none rfl) rfl (by decide) (x_slice rfl (by kernel_rfl) (h.get 2 47 (by decide) (hneed 2 (by kernel_rfl))) (congrArg some (h.get 3 48 (by decide) (hneed 3 (by kernel_rfl)))) rfl (hs2 w))
  · exact fix_value (i := 5) (d := 50) rfl (wanted_none rfl) rfl (by decide) (x_conv rfl (h.get 4 49 (by decide) (hneed 4 (by kernel_rfl))) (cv w _ _ _ hD (BSrc.at_ (h2.below h.below (Nat.le_refl _)))))
  · exact fix_value (i := 6) (d := 51) rfl (wanted_none rfl) rfl (by decide) (x_neq_str2 rfl (h.get 1 46 (by decide) (hneed 1 (by kernel_rfl))) (h.get 5 50 (by decide) (hneed 5 (by kernel_rfl))))
end Go.Proofs.Ytofjfpnkdcpngaa
namespace Go.Proofs.Ytofjfpnkdcpngaa
open Go.RowKit Mem

set_option linter.unusedVariables false
noncomputable def mon9Ops : Array Oper := findOps 9 ((Try.f4).body.getD (.exit 0))
def mon9Slots : List (Nat × Nat) := [(0, 52), (1, 53), (2, 54), (3, 55), (4, 56), (5, 57), (6, 58), (7, 59), (8, 60), (9, 61), (10, 62), (11, 63), (12, 64), (13, 65), (14, 66), (15, 67), (16, 68), (17, 69), (18, 70), (19, 71), (20, 72), (21, 4)]
def mon9Val (k b : List UInt8) (A A' A1 A2 : Option Addr) (c c' n c2 : Nat) : Nat → Value
  | 0 => .int .i64 6
  | 1 => .bool true
  | 2 => .bool true
  | 3 => .slice none 0 0
  | 4 => .int .i64 0
  | 5 => .bool true
  | 6 => .bool true
  | 7 => .bool true
  | 8 => .slice A k.length c
  | 9 => .slice A' b.length c'
  | 10 => .int .i64 (n : Int)
  | 11 => .slice A1 n c'
  | 12 => .slice A' b.length c'
  | 13 => .int .i64 (n : Int)
  | 14 => .slice A2 32 c2
  | 15 => .bool false
  | 16 => .bool (!false)
  | 17 => .bool true
  | 18 => .bool true
  | 19 => .bool true
  | 20 => .bool true
  | _ => .bool true
theorem mon9Region {Q : Exit → Act → World → Prop} (a0 : Act) (W0 : World) (hs : 72 < a0.tmps.size) (k b : List UInt8) (A A' A1 A2 : Option Addr) (c c' n c2 : Nat) (hs1 : ∀ wx, (Instr.slice 22 (.slice A' b.length c') none (some (.int .i64 (n : Int))) none).run Try.prog wx = .ok (.slice A1 n c') wx) (hs2 : ∀ wx, (Instr.slice 22 (.slice A' b.length c') (some (.int .i64 (n : Int))) none none).run Try.prog wx = .ok (.slice A2 32 c2) wx) (hr : ∀ W, Below W0.heap.size W0 W → Calls Try.prog 17 #[.slice A k.length c, .slice A1 n c', .slice A2 32 c2] W fun e w' => e = .returned (.bool false) ∧ Below W.heap.size W w')
    (e0 : a0.eval (.tmp 0) = .slice A k.length c)
    (e1 : a0.eval (.tmp 1) = .slice A' b.length c')
    (e5 : a0.eval (.tmp 5) = .slice none 0 0)
    (e6 : a0.eval (.tmp 6) = .int .i64 6)
    (e7 : a0.eval (.tmp 7) = .int .i64 (n : Int))
    (hQ : ∀ w, Below W0.heap.size W0 w → Q .normal (mon9Slots.foldl (fun x p => x.put (some p.2) ((mon9Val k b A A' A1 A2 c c' n c2) p.1)) a0) w) :
    wpAny Try.prog .any mon9Ops Q 22 (Array.replicate 22 false) a0 W0.drew := by
  have ok : slotsFix mon9Slots a0.tmps.size = true := by
    have : ∀ z, 72 < z → slotsFix mon9Slots z = true := by
      intro z hz
      simp [slotsFix, mon9Slots]
      omega
    exact this _ hs
  refine region_fixed (by kernel_rfl) W0 a0 mon9Slots (mon9Val k b A A' A1 A2 c c' n c2) ok (by kernel_rfl) 22 (by kernel_rfl) ?_ hQ
  intro i L a w h hi hneed
  rcases (show i = 0 ∨ i = 1 ∨ i = 2 ∨ i = 3 ∨ i = 4 ∨ i = 5 ∨ i = 6 ∨ i = 7 ∨ i = 8 ∨ i = 9 ∨ i = 10 ∨ i = 11 ∨ i = 12 ∨ i = 13 ∨ i = 14 ∨ i = 15 ∨ i = 16 ∨ i = 17 ∨ i = 18 ∨ i = 19 ∨ i = 20 ∨ i = 21 by omega) with rfl | rfl | rfl | rfl | rfl | rfl | rfl | rfl | rfl | rfl | rfl | rfl | rfl | rfl | rfl | rfl | rfl | rfl | rfl | rfl | rfl | rfl
  · exact fix_value (i := 0) (d := 52) rfl (wanted_none rfl) rfl (by decide) (x_move rfl ((h.old rfl).trans e6))
  · exact fix_value (i := 1) (d := 53) rfl (wanted_none rfl) rfl (by decide) (x_eql_true_int rfl (h.get 0 52 (by decide) (hneed 0 (by kernel_rfl))) rfl)
  · exact fix_value (i := 2) (d := 54) rfl (wanted_none rfl) rfl (by decide) (x_move rfl (h.get 1 53 (by decide) (hneed 1 (by kernel_rfl))))
  · exact fix_value (i := 3) (d := 55) rfl (wanted_some rfl rfl rfl (h.get 2 54 (by decide) (hneed 2 (by kernel_rfl)))) rfl (by decide) (x_move rfl ((h.old rfl).trans e5))
  · exact fix_value (i := 4) (d := 56) rfl (wanted_some rfl rfl rfl (h.get 2 54 (by decide) (hneed 2 (by kernel_rfl)))) rfl (by decide) (x_len rfl Try.underlying22 (h.get 3 55 (by decide) (hneed 3 (by kernel_rfl))))
  · exact fix_value (i := 5) (d := 57) rfl (wanted_some rfl rfl rfl (h.get 2 54 (by decide) (hneed 2 (by kernel_rfl)))) rfl (by decide) (x_eql_true_int rfl (h.get 4 56 (by decide) (hneed 4 (by kernel_rfl))) rfl)
  · exact fix_value (i := 6) (d := 58) rfl (wanted_none rfl) rfl (by decide) (x_pick_t rfl (h.get 2 54 (by decide) (hneed 2 (by kernel_rfl))) (h.get 5 57 (by decide) (hneed 5 (by kernel_rfl))))
  · exact fix_value (i := 7) (d := 59) rfl (wanted_none rfl) rfl (by decide) (x_move rfl (h.get 6 58 (by decide) (hneed 6 (by kernel_rfl))))
  · exact fix_value (i := 8) (d := 60) rfl (wanted_some rfl rfl rfl (h.get 7 59 (by decide) (hneed 7 (by kernel_rfl)))) rfl (by decide) (x_move rfl ((h.old rfl).trans e0))
  · exact fix_value (i := 9) (d := 61) rfl (wanted_some rfl rfl rfl (h.get 7 59 (by decide) (hneed 7 (by kernel_rfl)))) rfl (by decide) (x_move rfl ((h.old rfl).trans e1))
  · exact fix_value (i := 10) (d := 62) rfl (wanted_some rfl rfl rfl (h.get 7 59 (by decide) (hneed 7 (by kernel_rfl)))) rfl (by decide) (x_move rfl ((h.old rfl).trans e7))
  · exact fix_value (i := 11) (d := 63) rfl (wanted_some rfl rfl rfl (h.get 7 59 (by decide) (hneed 7 (by kernel_rfl)))) rfl (by decide) (x_slice rfl (by kernel_rfl) (h.get 9 61 (by decide) (hneed 9 (by kernel_rfl))) rfl (congrArg some (h.get 10 62 (by decide) (hneed 10 (by kernel_rfl)))) (hs1 w))
  · exact fix_value (i := 12) (d := 64) rfl (wanted_some rfl rfl rfl (h.get 7 59 (by decide) (hneed 7 (by kernel_rfl)))) rfl (by decide) (x_move rfl ((h.old rfl).trans e1))
  · exact fix_value (i := 13) (d := 65) rfl (wanted_some rfl rfl rfl (h.get 7 59 (by decide) (hneed 7 (by kernel_rfl)))) rfl (by decide) (x_move rfl ((h.old rfl).trans e7))
  · exact fix_value (i := 14) (d := 66) rfl (wanted_some rfl rfl rfl (h.get 7 59 (by decide) (hneed 7 (by kernel_rfl)))) rfl (by decide) (x_slice rfl (by kernel_rfl) (h.get 12 64 (by decide) (hneed 12 (by kernel_rfl))) (congrArg some (h.get 13 65 (by decide) (hneed 13 (by kernel_rfl)))) rfl (hs2 w))
  · refine fix_call (i := 15) (d := 67) 17 Try.f17 #[.tmp 60, .tmp 63, .tmp 66] _ #[.slice A k.length c, .slice A1 n c', .slice A2 32 c2] rfl (wanted_some rfl rfl rfl (h.get 7 59 (by decide) (hneed 7 (by kernel_rfl)))) rfl (by decide) rfl (by simp [(h.get 8 60 (by decide) (hneed 8 (by kernel_rfl))), (h.get 11 63 (by decide) (hneed 11 (by kernel_rfl))), (h.get 14 66 (by decide) (hneed 14 (by kernel_rfl))), mon9Val]) Try.func17 (by kernel_rfl) (by kernel_rfl) ?_
    exact hr w h.below
  · exact fix_value (i := 16) (d := 68) rfl (wanted_some rfl rfl rfl (h.get 7 59 (by decide) (hneed 7 (by kernel_rfl)))) rfl (by decide) (x_not rfl (h.get 15 67 (by decide) (hneed 15 (by kernel_rfl))))
  · exact fix_value (i := 17) (d := 69) rfl (wanted_none rfl) rfl (by decide) (x_pick_t rfl (h.get 7 59 (by decide) (hneed 7 (by kernel_rfl))) (h.get 16 68 (by decide) (hneed 16 (by kernel_rfl))))
  · exact fix_value (i := 18) (d := 70) rfl (wanted_none rfl) rfl (by decide) (x_move rfl (h.get 17 69 (by decide) (hneed 17 (by kernel_rfl))))
  · refine fix_call (i := 19) (d := 71) 9 Try.f9 #[] _ #[] rfl (wanted_some rfl rfl rfl (h.get 18 70 (by decide) (hneed 18 (by kernel_rfl)))) rfl (by decide) rfl (by simp) Try.func9 (by kernel_rfl) (by kernel_rfl) ?_
    exact known_any w
  · exact fix_value (i := 20) (d := 72) rfl (wanted_none rfl) rfl (by decide) (x_pick_t rfl (h.get 18 70 (by decide) (hneed 18 (by kernel_rfl))) (h.get 19 71 (by decide) (hneed 19 (by kernel_rfl))))
  · exact fix_value (i := 21) (d := 4) rfl (wanted_none rfl) rfl (by decide) (x_assign rfl (h.get 20 72 (by decide) (hneed 20 (by kernel_rfl))))
end Go.Proofs.Ytofjfpnkdcpngaa
namespace Go.Proofs.Ytofjfpnkdcpngaa
open Go.RowKit Mem

set_option linter.unusedVariables false
noncomputable def mon10Ops : Array Oper := findOps 10 ((Try.f4).body.getD (.exit 0))
def mon10Slots : List (Nat × Nat) := [(0, 73), (1, 74), (2, 75), (3, 76), (4, 77), (5, 78), (6, 79), (7, 80), (8, 81), (9, 82), (10, 83), (11, 84), (12, 85), (13, 86), (14, 4)]
def mon10Val (b X : List UInt8) (A' A1 A5 : Option Addr) (c' n c5 : Nat) : Nat → Value
  | 0 => .int .i64 0
  | 1 => .bool true
  | 2 => .bool true
  | 3 => .slice A5 n c5
  | 4 => .string ⟨X.toArray⟩
  | 5 => .slice A' b.length c'
  | 6 => .int .i64 (n : Int)
  | 7 => .slice A1 n c'
  | 8 => .string ⟨X.toArray⟩
  | 9 => .bool true
  | 10 => .bool true
  | 11 => .bool true
  | 12 => .bool true
  | 13 => .bool true
  | _ => .bool true
theorem mon10Region {Q : Exit → Act → World → Prop} (a0 : Act) (W0 : World) (hs : 86 < a0.tmps.size) (b X : List UInt8) (A' A1 A5 : Option Addr) (c' n c5 : Nat) (hx : X.length = n) (hs1 : ∀ wx, (Instr.slice 22 (.slice A' b.length c') none (some (.int .i64 (n : Int))) none).run Try.prog wx = .ok (.slice A1 n c') wx) (h1 : BSrc W0 A1 c' X) (h5 : BytesAt W0 A5 X)
    (e1 : a0.eval (.tmp 1) = .slice A' b.length c')
    (e5 : a0.eval (.tmp 5) = .slice A5 n c5)
    (e6 : a0.eval (.tmp 6) = .int .i64 0)
    (e7 : a0.eval (.tmp 7) = .int .i64 (n : Int))
    (hQ : ∀ w, Below W0.heap.size W0 w → Q .normal (mon10Slots.foldl (fun x p => x.put (some p.2) ((mon10Val b X A' A1 A5 c' n c5) p.1)) a0) w) :
    wpAny Try.prog .any mon10Ops Q 15 (Array.replicate 15 false) a0 W0.drew := by
  have ok : slotsFix mon10Slots a0.tmps.size = true := by
    have : ∀ z, 86 < z → slotsFix mon10Slots z = true := by
      intro z hz
      simp [slotsFix, mon10Slots]
      omega
    exact this _ hs
  have cv : ∀ w A c, BytesAt w A X → (convert 22 9 (.slice A n c)).run Try.prog w = .ok (.string ⟨X.toArray⟩) w := fun w A c h => by have := conv_bytes w A c X h; rw [hx] at this; exact this
  refine region_fixed (by kernel_rfl) W0 a0 mon10Slots (mon10Val b X A' A1 A5 c' n c5) ok (by kernel_rfl) 15 (by kernel_rfl) ?_ hQ
  intro i L a w h hi hneed
  rcases (show i = 0 ∨ i = 1 ∨ i = 2 ∨ i = 3 ∨ i = 4 ∨ i = 5 ∨ i = 6 ∨ i = 7 ∨ i = 8 ∨ i = 9 ∨ i = 10 ∨ i = 11 ∨ i = 12 ∨ i = 13 ∨ i = 14 by omega) with rfl | rfl | rfl | rfl | rfl | rfl | rfl | rfl | rfl | rfl | rfl | rfl | rfl | rfl | rfl
  · exact fix_value (i := 0) (d := 73) rfl (wanted_none rfl) rfl (by decide) (x_move rfl ((h.old rfl).trans e6))
  · exact fix_value (i := 1) (d := 74) rfl (wanted_none rfl) rfl (by decide) (x_eql_true_int rfl (h.get 0 73 (by decide) (hneed 0 (by kernel_rfl))) rfl)
  · exact fix_value (i := 2) (d := 75) rfl (wanted_none rfl) rfl (by decide) (x_move rfl (h.get 1 74 (by decide) (hneed 1 (by kernel_rfl))))
  · exact fix_value (i := 3) (d := 76) rfl (wanted_some rfl rfl rfl (h.get 2 75 (by decide) (hneed 2 (by kernel_rfl)))) rfl (by decide) (x_move rfl ((h.old rfl).trans e5))
  · exact fix_value (i := 4) (d := 77) rfl (wanted_some rfl rfl rfl (h.get 2 75 (by decide) (hneed 2 (by kernel_rfl)))) rfl (by decide) (x_conv rfl (h.get 3 76 (by decide) (hneed 3 (by kernel_rfl))) (cv w _ _ (h5.below h.below (Nat.le_refl _))))
  · exact fix_value (i := 5) (d := 78) rfl (wanted_some rfl rfl rfl (h.get 2 75 (by decide) (hneed 2 (by kernel_rfl)))) rfl (by decide) (x_move rfl ((h.old rfl).trans e1))
  · exact fix_value (i := 6) (d := 79) rfl (wanted_some rfl rfl rfl (h.get 2 75 (by decide) (hneed 2 (by kernel_rfl)))) rfl (by decide) (x_move rfl ((h.old rfl).trans e7))
  · exact fix_value (i := 7) (d := 80) rfl (wanted_some rfl rfl rfl (h.get 2 75 (by decide) (hneed 2 (by kernel_rfl)))) rfl (by decide) (x_slice rfl (by kernel_rfl) (h.get 5 78 (by decide) (hneed 5 (by kernel_rfl))) rfl (congrArg some (h.get 6 79 (by decide) (hneed 6 (by kernel_rfl)))) (hs1 w))
  · exact fix_value (i := 8) (d := 81) rfl (wanted_some rfl rfl rfl (h.get 2 75 (by decide) (hneed 2 (by kernel_rfl)))) rfl (by decide) (x_conv rfl (h.get 7 80 (by decide) (hneed 7 (by kernel_rfl))) (cv w _ _ (BSrc.at_ (h1.below h.below (Nat.le_refl _)))))
  · exact fix_value (i := 9) (d := 82) rfl (wanted_some rfl rfl rfl (h.get 2 75 (by decide) (hneed 2 (by kernel_rfl)))) rfl (by decide) (x_eql_true_str rfl (h.get 4 77 (by decide) (hneed 4 (by kernel_rfl))) (h.get 8 81 (by decide) (hneed 8 (by kernel_rfl))))
  · exact fix_value (i := 10) (d := 83) rfl (wanted_none rfl) rfl (by decide) (x_pick_t rfl (h.get 2 75 (by decide) (hneed 2 (by kernel_rfl))) (h.get 9 82 (by decide) (hneed 9 (by kernel_rfl))))
  · exact fix_value (i := 11) (d := 84) rfl (wanted_none rfl) rfl (by decide) (x_move rfl (h.get 10 83 (by decide) (hneed 10 (by kernel_rfl))))
  · refine fix_call (i := 12) (d := 85) 9 Try.f9 #[] _ #[] rfl (wanted_some rfl rfl rfl (h.get 11 84 (by decide) (hneed 11 (by kernel_rfl)))) rfl (by decide) rfl (by simp) Try.func9 (by kernel_rfl) (by kernel_rfl) ?_
    exact known_any w
  · exact fix_value (i := 13) (d := 86) rfl (wanted_none rfl) rfl (by decide) (x_pick_t rfl (h.get 11 84 (by decide) (hneed 11 (by kernel_rfl))) (h.get 12 85 (by decide) (hneed 12 (by kernel_rfl))))
  · exact fix_value (i := 14) (d := 4) rfl (wanted_none rfl) rfl (by decide) (x_assign rfl (h.get 13 86 (by decide) (hneed 13 (by kernel_rfl))))
end Go.Proofs.Ytofjfpnkdcpngaa
namespace Go.Proofs.Ytofjfpnkdcpngaa
open Go.RowKit Mem

set_option maxRecDepth 100000 in
set_option maxHeartbeats 4000000 in
theorem macOnly_walk (w : World) (A : Option Addr) (c : Nat) (k : List UInt8) (hA : BArg w A c k) (A' : Option Addr) (c' : Nat) (b : List UInt8) (hA' : BArg w A' c' b) :
    Calls Try.prog 4 #[.slice A k.length c, .slice A' b.length c'] w fun e w' => e = .returned (.bool true) ∧ Below w.heap.size w w' := by
  obtain ⟨hA1, hA2, hA3⟩ := hA
  obtain ⟨hM1, hM2, hM3⟩ := hA'
  by_cases h1 : k.length ≤ 16384
  · by_cases h2 : b.length ≤ 16384
    · by_cases h32 : b.length < 32
      · go_enter Try.func4, Try.ntmps4
        go_wp2_with fail
        refine (macopen_short _ b.length c' A' _ h32).mono ?_
        rintro e w' ⟨rfl, rfl⟩
        go_wp2_with fail
        refine (known_any _).mono ?_
        rintro e w8 ⟨rfl, hb8⟩
        go_wp2_with fail
        go_ret
        exact ⟨rfl, hb8⟩
      · obtain ⟨n, hn⟩ : ∃ n, b.length = n + 32 := ⟨b.length - 32, by omega⟩
        obtain ⟨A1, A2, hb1, hb2, hs1, hs2⟩ := open_cuts hM1 hM2 n hn
        have HA := Lib.hid hA1
        have HM := Lib.hid hM1
        have HSL1 := Lib.hid hs1
        have HSL2 := Lib.hid hs2
        have HC1 := Lib.hid hb1
        have HC2 := Lib.hid hb2
        have hi32 : (Try.prog.info? 27).map (·.size) = some 32 := by kernel_rfl
        have HI32 := Lib.hid hi32
        have hl1 : (b.take n).length = n := by rw [List.length_take]; omega
        have hl2 : (b.drop n).length = 32 := by rw [List.length_drop]; omega
        have HOP := Lib.hid (fun (W : World) (h : Below w.heap.size w W) => macopen k b A A' c c' W (hA1.below h (Nat.le_refl _)) hA2 (by omega) (by omega) (hM1.below h (Nat.le_refl _)) (by omega) hM2 n hn)
        have HRI : Hid (∀ W, Below w.heap.size w W → Calls Try.prog 17 #[.slice A k.length c, .slice A1 n c', .slice A2 32 (c' - n)] W fun e w' => e = .returned (.bool (b.drop n == tagOf k (b.take n))) ∧ Below W.heap.size W w') := fun W h => by
          have := macright k (b.take n) (b.drop n) A A1 A2 c c' (c' - n) W (hA1.below h (Nat.le_refl _)) hA2 (by omega) (by omega) (hb1.below h (Nat.le_refl _)) (by rw [hl1]; omega) (hb2.below h (Nat.le_refl _)) (by rw [hl2]; decide)
          rw [hl1, hl2] at this
          exact this
        have HTG : Hid (∀ W, Below w.heap.size w W → Calls Try.prog 13 #[.slice A k.length c, .slice A' n c'] W fun e w' => e = .returned (.agg (bcells (tagOf k (b.take n))).toArray) ∧ Below W.heap.size W w') := fun W h => by
          have hp : BSrc W A' c' (b.take n) := by unfold BSrc; rw [hl1]; exact BSrc.pre (hM1.below h (Nat.le_refl _)) n (by omega) (by omega)
          have := mactag k (b.take n) A A' c c' W (hA1.below h (Nat.le_refl _)) hA2 (by omega) (by omega) hp (by rw [hl1]; omega)
          rw [hl1] at this
          exact this
        have HL := Lib.hid (tagOf_len k (b.take n))
        have HL1 := Lib.hid hl1
        have HL2 := Lib.hid hl2
        clear hA1 hM1 hb1 hb2 hs1 hs2 hl1 hl2 hi32
        have HQ : Hid (∃ q, q = (b.drop n == tagOf k (b.take n))) := ⟨_, rfl⟩
        obtain ⟨q, hq⟩ := HQ.out
        rw [← hq] at HRI HOP
        have HQE := Lib.hid hq
        clear HQ hq
        generalize tagOf k (b.take n) = T at *
        have HSP : Hid ((bcells T).toArray.size = 32) := by unfold RowKit.Hid; rw [List.size_toArray, bcells_length, HL.out]
        have HONE := Lib.hid (cells_one32 T)
        have HBL : Hid ((b.length : Int) - 32 = (n : Int)) := by unfold RowKit.Hid; omega
        clear hn
        go_enter Try.func4, Try.ntmps4
        go_wp2_with fail
        refine (HOP.out _ (Below.refl _ _)).mono ?_
        rintro e w1 ⟨hop, hb1⟩
        have HB1 := Lib.hid hb1
        clear hb1 HOP
        have hbl := HBL.out
        cases q with
        | false =>
          unfold Opened at hop
          dsimp only at hop
          subst hop
          go_wp2_with fail
          refine (HTG.out _ HB1.out).mono ?_
          rintro e w2 ⟨rfl, hb2⟩
          have HB2 := Lib.hid (HB1.out.trans (hb2.mono HB1.out.size))
          clear hb2
          go_upto_region 8 with (refine wpList_store_row rfl 27 (.tmp 8) (.tmp 44) rfl w2.heap.size (bcells T).toArray rfl rfl _ _ (heap_alloc_new _ _) (by rw [HI32.out, HSP.out]) (by rw [HSP.out]; rfl) HONE.out ?_)
          obtain ⟨W3, hW3⟩ : ∃ W3, W3 = (w2.alloc (.cells (Array.replicate 32 (.int .u8 0)) 27)).setRow w2.heap.size (bcells T).toArray := ⟨_, rfl⟩
          have HK3 : Hid (W3.heap[w2.heap.size]? = some (.cells (bcells T).toArray 27 (0, 0))) := by rw [hW3]; exact setRow_heap _ _ _ _ _ _ (heap_alloc_new _ _)
          have HB3 : Hid (Below w.heap.size w W3) := by rw [hW3]; exact below_setRow (HB2.out.alloc HB2.out.size _) HB2.out.size
          refine wp_congr_world (W1 := W3) hW3 ?_
          clear hW3
          refine wp_region_any (by kernel_rfl) ?_
          refine wpAny_ops (ops' := mon8Ops) (by kernel_rfl) ?_
          refine mon8Region _ W3 ?hs b T A' A2 c' n (c' - n) w2.heap.size HL.out HL2.out HK3.out HSL2.out (HC2.out.below HB3.out (Nat.le_refl _)) rfl rfl rfl ?_
          case hs => simp [Act.put]
          intro w5 hb5
          simp only [mon8Slots, List.foldl_cons, List.foldl_nil]
          simp only [mon8Val]
          simp only [Act.put, List.setIfInBounds_toArray, List.set_cons_zero, List.set_cons_succ]
          have HB5 := Lib.hid (HB3.out.trans (hb5.mono HB3.out.size))
          clear hb5
          have hne : (T == b.drop n) = false := by rw [beq_comm_b]; exact HQE.out.symm
          rw [hne]
          go_upto_region 9 with fail
          refine wp_region_any (by kernel_rfl) ?_
          refine wpAny_ops (ops' := mon9Ops) (by kernel_rfl) ?_
          refine mon9Region _ w5 ?hs k b A A' A1 A2 c c' n (c' - n) HSL1.out HSL2.out (fun W h => HRI.out W (HB5.out.trans (h.mono HB5.out.size))) rfl rfl rfl rfl rfl ?_
          case hs => simp [Act.put]
          intro w6 hb6
          simp only [mon9Slots, List.foldl_cons, List.foldl_nil]
          simp only [mon9Val]
          simp only [Act.put, List.setIfInBounds_toArray, List.set_cons_zero, List.set_cons_succ]
          have HB6 := Lib.hid (HB5.out.trans (hb6.mono HB5.out.size))
          clear hb6
          go_wp2_with fail
          go_ret
          exact ⟨rfl, HB6.out⟩
        | true =>
          unfold Opened at hop
          dsimp only at hop
          obtain ⟨v, rfl, how⟩ := hop
          obtain ⟨A5, c5, rfl⟩ := own_slice how
          have HO1 := Lib.hid how
          clear how
          go_wp2_with fail
          refine (HTG.out _ HB1.out).mono ?_
          rintro e w2 ⟨rfl, hb2⟩
          have HO2 := Lib.hid (own_below HO1.out hb2)
          have HB2 := Lib.hid (HB1.out.trans (hb2.mono HB1.out.size))
          clear hb2
          go_upto_region 8 with (refine wpList_store_row rfl 27 (.tmp 8) (.tmp 44) rfl w2.heap.size (bcells T).toArray rfl rfl _ _ (heap_alloc_new _ _) (by rw [HI32.out, HSP.out]) (by rw [HSP.out]; rfl) HONE.out ?_)
          obtain ⟨W3, hW3⟩ : ∃ W3, W3 = (w2.alloc (.cells (Array.replicate 32 (.int .u8 0)) 27)).setRow w2.heap.size (bcells T).toArray := ⟨_, rfl⟩
          have HK3 : Hid (W3.heap[w2.heap.size]? = some (.cells (bcells T).toArray 27 (0, 0))) := by rw [hW3]; exact setRow_heap _ _ _ _ _ _ (heap_alloc_new _ _)
          have hb3 : Below w2.heap.size w2 W3 := by rw [hW3]; exact below_setRow ((Below.refl _ _).alloc (Nat.le_refl _) _) (Nat.le_refl _)
          refine wp_congr_world (W1 := W3) hW3 ?_
          have HB3 := Lib.hid (HB2.out.trans (hb3.mono HB2.out.size))
          have HO3 := Lib.hid (own_below HO2.out hb3)
          clear hW3 hb3
          refine wp_region_any (by kernel_rfl) ?_
          refine wpAny_ops (ops' := mon8Ops) (by kernel_rfl) ?_
          refine mon8Region _ W3 ?hs b T A' A2 c' n (c' - n) w2.heap.size HL.out HL2.out HK3.out HSL2.out (HC2.out.below HB3.out (Nat.le_refl _)) rfl rfl rfl ?_
          case hs => simp [Act.put]
          intro w5 hb5
          simp only [mon8Slots, List.foldl_cons, List.foldl_nil]
          simp only [mon8Val]
          simp only [Act.put, List.setIfInBounds_toArray, List.set_cons_zero, List.set_cons_succ]
          have HB5 := Lib.hid (HB3.out.trans (hb5.mono HB3.out.size))
          have HO5 := Lib.hid (own_below HO3.out hb5)
          clear hb5
          have hne : (T == b.drop n) = true := by rw [beq_comm_b]; exact HQE.out.symm
          rw [hne]
          go_upto_region 10 with fail
          refine wp_region_any (by kernel_rfl) ?_
          refine wpAny_ops (ops' := mon10Ops) (by kernel_rfl) ?_
          refine mon10Region _ w5 ?hs b (b.take n) A' A1 A5 c' n c5 HL1.out HSL1.out (HC1.out.below HB5.out (Nat.le_refl _)) (BytesAt.of_own HO5.out) rfl rfl rfl rfl ?_
          case hs => simp [Act.put]
          intro w6 hb6
          simp only [mon10Slots, List.foldl_cons, List.foldl_nil]
          simp only [mon10Val]
          simp only [Act.put, List.setIfInBounds_toArray, List.set_cons_zero, List.set_cons_succ]
          have HB6 := Lib.hid (HB5.out.trans (hb6.mono HB5.out.size))
          clear hb6
          go_wp2_with fail
          go_ret
          exact ⟨rfl, HB6.out⟩
    · go_enter Try.func4, Try.ntmps4
      go_wp2_with fail
      refine (known_any _).mono ?_
      rintro e w8 ⟨rfl, hb8⟩
      go_wp2_with fail
      go_ret
      exact ⟨rfl, hb8⟩
  · go_enter Try.func4, Try.ntmps4
    go_wp2_with fail
    refine (known_any _).mono ?_
    rintro e w8 ⟨rfl, hb8⟩
    go_wp2_with fail
    go_ret
    exact ⟨rfl, hb8⟩
end Go.Proofs.Ytofjfpnkdcpngaa
