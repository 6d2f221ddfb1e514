/-
  The drawn statement of Sum of the package sha: the state behind the whole blocks and the rest, whatever the order.
-/
import Derived.Test.YtofjfpnkdcpngaaShaE
import Derived.Test.YtofjfpnkdcpngaaShaR
import Derived.Test.YtofjfpnkdcpngaaRegGen
namespace Go.Proofs.Ytofjfpnkdcpngaa
open Go.RowKit Mem

noncomputable def sumOps : Array Oper := findOps 4 ((Try.f18).body.getD (.exit 0))
theorem sumSize : sumOps.size = 9 := by kernel_rfl
theorem sumDep : depOk sumOps = true := by kernel_rfl
def sumOwn (j : Nat) : Bool := j == 7 || j == 27 || j == 28 || j == 29 || j == 30 || j == 31 || j == 32 || j == 33
def sumSlots : List (Nat × Nat) := [(0, 27), (1, 28), (2, 29), (3, 30), (4, 31), (5, 32), (6, 33)]
theorem so0 : ∃ o, sumOps[0]? = some o ∧ o.guard = none ∧ o.dst = some 27 ∧ o.op = .call { callee := .value (.func 30), args := #[], argTypes := #[] } := ⟨_, rfl, rfl, rfl, rfl⟩
theorem so1 : ∃ o, sumOps[1]? = some o ∧ o.guard = none ∧ o.dst = some 28 ∧ o.op = .move (.tmp 0) := ⟨_, rfl, rfl, rfl, rfl⟩
theorem so2 : ∃ o, sumOps[2]? = some o ∧ o.guard = none ∧ o.dst = some 29 ∧ o.op = .move (.tmp 5) := ⟨_, rfl, rfl, rfl, rfl⟩
theorem so3 : ∃ o, sumOps[3]? = some o ∧ o.guard = none ∧ o.dst = some 30 ∧ o.op = .slice 22 (.tmp 28) none (some (.tmp 29)) none := ⟨_, rfl, rfl, rfl, rfl⟩
theorem so4 : ∃ o, sumOps[4]? = some o ∧ o.guard = none ∧ o.dst = some 31 ∧ o.op = .call { callee := .value (.func 29), args := #[.tmp 27, .tmp 30], argTypes := #[43, 22] } := ⟨_, rfl, rfl, rfl, rfl⟩
theorem so5 : ∃ o, sumOps[5]? = some o ∧ o.guard = none ∧ o.dst = some 32 ∧ o.op = .move (.tmp 6) := ⟨_, rfl, rfl, rfl, rfl⟩
theorem so6 : ∃ o, sumOps[6]? = some o ∧ o.guard = none ∧ o.dst = some 33 ∧ o.op = .call { callee := .value (.func 29), args := #[.tmp 31, .tmp 32], argTypes := #[43, 22] } := ⟨_, rfl, rfl, rfl, rfl⟩
theorem so7 : ∃ o, sumOps[7]? = some o ∧ o.guard = none ∧ o.dst = some 7 ∧ o.op = .alloc 43 := ⟨_, rfl, rfl, rfl, rfl⟩
theorem so8 : ∃ o, sumOps[8]? = some o ∧ o.guard = none ∧ o.dst = none ∧ o.op = .store 43 (.tmp 7) (.tmp 33) := ⟨_, rfl, rfl, rfl, rfl⟩
theorem wp_value_ {P : Program} {o : Oper} {a : Act} {w : World} {K : Act → World → Prop} {Q : Exit → Act → World → Prop} (v : Value) (hr : (execOp a.eval o).run P w = .ok (.value v) w)
    (h : K (a.put o.dst v) w) : o.wp P a w K Q := by
  unfold Oper.wp
  rw [hr]
  exact h
def sumVal (VF V1 V2 : Array Value) (A A1 A2 : Option Addr) (n c q n2 c2 : Nat) : Nat → Value
  | 0 => .agg VF
  | 1 => .slice A n c
  | 2 => .int .i64 q
  | 3 => .slice A1 q c
  | 4 => .agg V1
  | 5 => .slice A2 n2 c2
  | _ => .agg V2
theorem sumRegion (STEP : StepOk) {Q : Exit → Act → World → Prop} (b tl : List UInt8) (A A2 : Option Addr) (c c2 q : Nat) (a0 : Act) (W0 : World) (hs : 33 < a0.tmps.size)
    (e0 : a0.eval (.tmp 0) = .slice A b.length c) (e5 : a0.eval (.tmp 5) = .int .i64 (q : Int)) (e6 : a0.eval (.tmp 6) = .slice A2 tl.length c2)
    (hA : BytesAt W0 A b) (hA2 : BytesAt W0 A2 tl) (hc : b.length ≤ c) (hcm : c ≤ 9223372036854775807) (hc2 : tl.length ≤ c2) (hcm2 : c2 ≤ 9223372036854775807) (hq : q ≤ b.length)
    (hQ : ∀ a w, (∃ (A1 : Option Addr) (L : Array Bool), Rg W0 a0 sumOwn sumSlots (sumVal (wcells (Sh.stL Sh.first)).toArray (wcells (Sh.stL (setZ Sh.first (b.take q) (q / 64)))).toArray (wcells (Sh.stL (setZ (setZ Sh.first (b.take q) (q / 64)) tl (tl.length / 64)))).toArray A A1 A2 b.length c q tl.length c2) 7 7 8 43 8 (wcells (Sh.stL (setZ (setZ Sh.first (b.take q) (q / 64)) tl (tl.length / 64)))).toArray L a w ∧ ∀ i, i < 9 → L.getD i false = true) → Q .normal a w) :
    wpAny Try.prog .any sumOps Q 9 (Array.replicate 9 false) a0 W0.drew := by
  obtain ⟨A1, hA1, hsl⟩ := slice_to c hA q hq hc
  have hlen1 : (b.take q).length = q := by rw [List.length_take]; omega
  have hi23 : (Try.prog.info? 43).map (·.size) = some 8 := by kernel_rfl
  have ok : slotsOk sumOwn sumSlots 7 7 8 a0.tmps.size = true := by
    have : ∀ z, 33 < z → slotsOk sumOwn sumSlots 7 7 8 z = true := by
      intro z hz
      simp [slotsOk, sumSlots, sumOwn]
      omega
    exact this _ hs
  generalize hV1 : setZ Sh.first (b.take q) (q / 64) = s1 at *
  generalize hV2 : setZ s1 tl (tl.length / 64) = s2 at *
  refine wpAny_gen (Rg W0 a0 sumOwn sumSlots (sumVal (wcells (Sh.stL Sh.first)).toArray (wcells (Sh.stL s1)).toArray (wcells (Sh.stL s2)).toArray A A1 A2 b.length c q tl.length c2) 7 7 8 43 8 (wcells (Sh.stL s2)).toArray) sumDep ?_ ?_ 9 _ a0 W0.drew ?_ ?_ ?_
  · intro i L a w h hL hi hf hneed
    rw [sumSize] at hi hL
    rcases (show i = 0 ∨ i = 1 ∨ i = 2 ∨ i = 3 ∨ i = 4 ∨ i = 5 ∨ i = 6 ∨ i = 7 ∨ i = 8 by omega) with rfl | rfl | rfl | rfl | rfl | rfl | rfl | rfl | rfl
    · obtain ⟨o, ho, hg, hd, hop⟩ := so0
      have hv : (#[] : Array Operand).map a.eval = #[] := by simp
      refine wpOp_of ho hg (wp_call_ _ _ _ #[] hop hv (fun wx => by rw [← hv]; exact enter_call _ Try.f30 _ _ hop Try.func30 (by kernel_rfl) (by kernel_rfl)) ?_)
      refine (shafirst w).mono ?_
      rintro e w' ⟨rfl, hb⟩
      refine ⟨_, rfl, ?_⟩
      rw [hd]
      exact (h.world hb).put ok 0 27 (by decide)
    · obtain ⟨o, ho, hg, hd, hop⟩ := so1
      refine wpOp_of ho hg (wp_move_ _ hop ?_)
      rw [hd, h.old rfl, e0]
      exact h.put ok 1 28 (by decide)
    · obtain ⟨o, ho, hg, hd, hop⟩ := so2
      refine wpOp_of ho hg (wp_move_ _ hop ?_)
      rw [hd, h.old rfl, e5]
      exact h.put ok 2 29 (by decide)
    · obtain ⟨o, ho, hg, hd, hop⟩ := so3
      have h1 := h.get 1 28 (by decide) (hneed 1 (by kernel_rfl))
      have h2 := h.get 2 29 (by decide) (hneed 2 (by kernel_rfl))
      refine wpOp_of ho hg (wp_value_ (.slice A1 q c) ?_ ?_)
      · unfold execOp
        simp only [hop, h1, h2, Option.map_some, Option.map_none]
        simp only [sumVal]
        rw [Sem.run_bind, run_sliceAt_slice (P := Try.prog) _ _ _ _ _ _ (by kernel_rfl), hsl]
        rfl
      · rw [hd]
        exact h.put ok 3 30 (by decide)
    · obtain ⟨o, ho, hg, hd, hop⟩ := so4
      have h1 := h.get 0 27 (by decide) (hneed 0 (by kernel_rfl))
      have h2 := h.get 3 30 (by decide) (hneed 3 (by kernel_rfl))
      have hv : (#[Operand.tmp 27, Operand.tmp 30] : Array Operand).map a.eval = #[.agg (wcells (Sh.stL Sh.first)).toArray, .slice A1 q c] := by simp [h1, h2, sumVal]
      refine wpOp_of ho hg (wp_call_ _ _ _ _ hop hv (fun wx => by rw [← hv]; exact enter_call _ Try.f29 _ _ hop Try.func29 (by kernel_rfl) (by kernel_rfl)) ?_)
      have hr := sharun STEP Sh.first (b.take q) A1 c w (hA1.below h.below (Nat.le_refl _)) (by omega) hcm
      rw [hlen1, hV1] at hr
      refine hr.mono ?_
      rintro e w' ⟨rfl, hb⟩
      refine ⟨_, rfl, ?_⟩
      rw [hd]
      exact (h.world hb).put ok 4 31 (by decide)
    · obtain ⟨o, ho, hg, hd, hop⟩ := so5
      refine wpOp_of ho hg (wp_move_ _ hop ?_)
      rw [hd, h.old rfl, e6]
      exact h.put ok 5 32 (by decide)
    · obtain ⟨o, ho, hg, hd, hop⟩ := so6
      have h1 := h.get 4 31 (by decide) (hneed 4 (by kernel_rfl))
      have h2 := h.get 5 32 (by decide) (hneed 5 (by kernel_rfl))
      have hv : (#[Operand.tmp 31, Operand.tmp 32] : Array Operand).map a.eval = #[.agg (wcells (Sh.stL s1)).toArray, .slice A2 tl.length c2] := by simp [h1, h2, sumVal]
      refine wpOp_of ho hg (wp_call_ _ _ _ _ hop hv (fun wx => by rw [← hv]; exact enter_call _ Try.f29 _ _ hop Try.func29 (by kernel_rfl) (by kernel_rfl)) ?_)
      have hr := sharun STEP s1 tl A2 c2 w (hA2.below h.below (Nat.le_refl _)) hc2 hcm2
      rw [hV2] at hr
      refine hr.mono ?_
      rintro e w' ⟨rfl, hb⟩
      refine ⟨_, rfl, ?_⟩
      rw [hd]
      exact (h.world hb).put ok 6 33 (by decide)
    · obtain ⟨o, ho, hg, hd, hop⟩ := so7
      refine wpOp_of ho hg (wp_alloc_ _ _ hop (alloc23 w) ?_)
      rw [hd]
      exact h.made ok hf _ (by simp)
    · obtain ⟨o, ho, hg, hd, hop⟩ := so8
      have hm : L.getD 7 false = true := hneed 7 (by kernel_rfl)
      have h1 := h.get 6 33 (by decide) (hneed 6 (by kernel_rfl))
      obtain ⟨g, k1, k2, Z, k3, k4, k5⟩ := h.m hm
      refine wpOp_of ho hg (wp_store_row _ _ _ hop g _ k1 h1 _ _ k3 (by rw [hi23]; rfl) (by rw [k4]; rfl) (wcells_one _) ?_)
      rw [hd]
      exact h.stored ok hm k1 rfl
  · intro L a w hL hall h
    exact hQ a w ⟨A1, L, h, by rw [← sumSize]; exact hall⟩
  · rw [sumSize]; rfl
  · rfl
  · exact ⟨rfl, rfl, fun _ _ => rfl, (Below.refl _ _).drew, fun p hp hL => by simp [Array.getD] at hL, fun hL => by simp at hL, fun hL => by simp at hL⟩
end Go.Proofs.Ytofjfpnkdcpngaa
