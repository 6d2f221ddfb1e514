/-
  The drawn statement of Sum of the package sha: the state behind the whole blocks and the rest, whatever the order.
  Sums as text, by the package sha.
  What stands behind bytes: Pad of the package sha and of its reference.
  The sum of bytes, by the package sha.
  Texts as sums, by the package sha: Unhex; and what must come of the layer's fixed calls.
  What stands behind bytes, by the reference.
-/
import Derived.Test.YtjhopgmionpkoaaSha3
import Derived.Test.YtjhopgmionpkoaaRgn
import Derived.Test.YtjhopgmionpkoaaSha1
import Derived.IntWalk
import Derived.Test.YtjhopgmionpkoaaBytes
import Derived.StillTailTactics
namespace Go.Proofs.Ytjhopgmionpkoaa
set_option maxRecDepth 20000
open Go.RowKit Mem

noncomputable def sumOps : Array Oper := findOps 4 ((Try.f74).body.getD (.exit 0))
theorem sumSize : sumOps.size = 9 := by kernel_rfl
theorem sumDep : depOk sumOps = true := by kernel_rfl
def sumOwn (j : Nat) : Bool := j == 7 || j == 27 || j == 28 || j == 29 || j == 30 || j == 31 || j == 32 || j == 33
def sumSlots : List (Nat × Nat) := [(0, 27), (1, 28), (2, 29), (3, 30), (4, 31), (5, 32), (6, 33)]
theorem so0 : ∃ o, sumOps[0]? = some o ∧ o.guard = none ∧ o.dst = some 27 ∧ o.op = .call { callee := .value (.func 92), args := #[], argTypes := #[] } := ⟨_, rfl, rfl, rfl, rfl⟩
theorem so1 : ∃ o, sumOps[1]? = some o ∧ o.guard = none ∧ o.dst = some 28 ∧ o.op = .move (.tmp 0) := ⟨_, rfl, rfl, rfl, rfl⟩
theorem so2 : ∃ o, sumOps[2]? = some o ∧ o.guard = none ∧ o.dst = some 29 ∧ o.op = .move (.tmp 5) := ⟨_, rfl, rfl, rfl, rfl⟩
theorem so3 : ∃ o, sumOps[3]? = some o ∧ o.guard = none ∧ o.dst = some 30 ∧ o.op = .slice 31 (.tmp 28) none (some (.tmp 29)) none := ⟨_, rfl, rfl, rfl, rfl⟩
theorem so4 : ∃ o, sumOps[4]? = some o ∧ o.guard = none ∧ o.dst = some 31 ∧ o.op = .call { callee := .value (.func 91), args := #[.tmp 27, .tmp 30], argTypes := #[117, 31] } := ⟨_, rfl, rfl, rfl, rfl⟩
theorem so5 : ∃ o, sumOps[5]? = some o ∧ o.guard = none ∧ o.dst = some 32 ∧ o.op = .move (.tmp 6) := ⟨_, rfl, rfl, rfl, rfl⟩
theorem so6 : ∃ o, sumOps[6]? = some o ∧ o.guard = none ∧ o.dst = some 33 ∧ o.op = .call { callee := .value (.func 91), args := #[.tmp 31, .tmp 32], argTypes := #[117, 31] } := ⟨_, rfl, rfl, rfl, rfl⟩
theorem so7 : ∃ o, sumOps[7]? = some o ∧ o.guard = none ∧ o.dst = some 7 ∧ o.op = .alloc 117 := ⟨_, rfl, rfl, rfl, rfl⟩
theorem so8 : ∃ o, sumOps[8]? = some o ∧ o.guard = none ∧ o.dst = none ∧ o.op = .store 117 (.tmp 7) (.tmp 33) := ⟨_, rfl, rfl, rfl, rfl⟩
theorem wp_value_ {P : Program} {o : Oper} {a : Act} {w : World} {K : Act → World → Prop} {Q : Exit → Act → World → Prop} (v : Value) (hr : (execOp a.eval o).run P w = .ok (.value v) w)
    (h : K (a.put o.dst v) w) : o.wp P a w K Q := by
  unfold Oper.wp
  rw [hr]
  exact h
def sumVal (VF V1 V2 : Array Value) (A A1 A2 : Option Addr) (n c q n2 c2 : Nat) : Nat → Value
  | 0 => .agg VF
  | 1 => .slice A n c
  | 2 => .int .i64 q
  | 3 => .slice A1 q c
  | 4 => .agg V1
  | 5 => .slice A2 n2 c2
  | _ => .agg V2
theorem sumRegion (STEP : StepOk) {Q : Exit → Act → World → Prop} (b tl : List UInt8) (A A2 : Option Addr) (c c2 q : Nat) (a0 : Act) (W0 : World) (hs : 33 < a0.tmps.size)
    (e0 : a0.eval (.tmp 0) = .slice A b.length c) (e5 : a0.eval (.tmp 5) = .int .i64 (q : Int)) (e6 : a0.eval (.tmp 6) = .slice A2 tl.length c2)
    (hA : BytesAt W0 A b) (hA2 : BytesAt W0 A2 tl) (hc : b.length ≤ c) (hcm : c ≤ 9223372036854775807) (hc2 : tl.length ≤ c2) (hcm2 : c2 ≤ 9223372036854775807) (hq : q ≤ b.length)
    (hQ : ∀ a w, (∃ (A1 : Option Addr) (L : Array Bool), Rg W0 a0 sumOwn sumSlots (sumVal (wcells (Sh.stL Sh.first)).toArray (wcells (Sh.stL (setZ Sh.first (b.take q) (q / 64)))).toArray (wcells (Sh.stL (setZ (setZ Sh.first (b.take q) (q / 64)) tl (tl.length / 64)))).toArray A A1 A2 b.length c q tl.length c2) 7 7 8 117 8 (wcells (Sh.stL (setZ (setZ Sh.first (b.take q) (q / 64)) tl (tl.length / 64)))).toArray L a w ∧ ∀ i, i < 9 → L.getD i false = true) → Q .normal a w) :
    wpAny Try.prog .any sumOps Q 9 (Array.replicate 9 false) a0 W0.drew := by
  obtain ⟨A1, hA1, hsl⟩ := slice_to c hA q hq hc
  have hlen1 : (b.take q).length = q := by rw [List.length_take]; omega
  have hi23 : (Try.prog.info? 117).map (·.size) = some 8 := by kernel_rfl
  have ok : slotsOk sumOwn sumSlots 7 7 8 a0.tmps.size = true := by
    have : ∀ z, 33 < z → slotsOk sumOwn sumSlots 7 7 8 z = true := by
      intro z hz
      simp [slotsOk, sumSlots, sumOwn]
      omega
    exact this _ hs
  generalize hV1 : setZ Sh.first (b.take q) (q / 64) = s1 at *
  generalize hV2 : setZ s1 tl (tl.length / 64) = s2 at *
  refine wpAny_gen (Rg W0 a0 sumOwn sumSlots (sumVal (wcells (Sh.stL Sh.first)).toArray (wcells (Sh.stL s1)).toArray (wcells (Sh.stL s2)).toArray A A1 A2 b.length c q tl.length c2) 7 7 8 117 8 (wcells (Sh.stL s2)).toArray) sumDep ?_ ?_ 9 _ a0 W0.drew ?_ ?_ ?_
  · intro i L a w h hL hi hf hneed
    rw [sumSize] at hi hL
    rcases (show i = 0 ∨ i = 1 ∨ i = 2 ∨ i = 3 ∨ i = 4 ∨ i = 5 ∨ i = 6 ∨ i = 7 ∨ i = 8 by omega) with rfl | rfl | rfl | rfl | rfl | rfl | rfl | rfl | rfl
    · obtain ⟨o, ho, hg, hd, hop⟩ := so0
      have hv : (#[] : Array Operand).map a.eval = #[] := by simp
      refine wpOp_of ho hg (wp_call_ _ _ _ #[] hop hv (fun wx => by rw [← hv]; exact enter_call _ Try.f92 _ _ hop Try.func92 (by kernel_rfl) (by kernel_rfl)) ?_)
      refine (shafirst w).mono ?_
      rintro e w' ⟨rfl, hb⟩
      refine ⟨_, rfl, ?_⟩
      rw [hd]
      exact (h.world hb).put ok 0 27 (by decide)
    · obtain ⟨o, ho, hg, hd, hop⟩ := so1
      refine wpOp_of ho hg (wp_move_ _ hop ?_)
      rw [hd, h.old rfl, e0]
      exact h.put ok 1 28 (by decide)
    · obtain ⟨o, ho, hg, hd, hop⟩ := so2
      refine wpOp_of ho hg (wp_move_ _ hop ?_)
      rw [hd, h.old rfl, e5]
      exact h.put ok 2 29 (by decide)
    · obtain ⟨o, ho, hg, hd, hop⟩ := so3
      have h1 := h.get 1 28 (by decide) (hneed 1 (by kernel_rfl))
      have h2 := h.get 2 29 (by decide) (hneed 2 (by kernel_rfl))
      refine wpOp_of ho hg (wp_value_ (.slice A1 q c) ?_ ?_)
      · unfold execOp
        simp only [hop, h1, h2, Option.map_some, Option.map_none]
        simp only [sumVal]
        rw [Sem.run_bind, run_sliceAt_slice (P := Try.prog) _ _ _ _ _ _ (by kernel_rfl), hsl]
        rfl
      · rw [hd]
        exact h.put ok 3 30 (by decide)
    · obtain ⟨o, ho, hg, hd, hop⟩ := so4
      have h1 := h.get 0 27 (by decide) (hneed 0 (by kernel_rfl))
      have h2 := h.get 3 30 (by decide) (hneed 3 (by kernel_rfl))
      have hv : (#[Operand.tmp 27, Operand.tmp 30] : Array Operand).map a.eval = #[.agg (wcells (Sh.stL Sh.first)).toArray, .slice A1 q c] := by simp [h1, h2, sumVal]
      refine wpOp_of ho hg (wp_call_ _ _ _ _ hop hv (fun wx => by rw [← hv]; exact enter_call _ Try.f91 _ _ hop Try.func91 (by kernel_rfl) (by kernel_rfl)) ?_)
      have hr := sharun STEP Sh.first (b.take q) A1 c w (hA1.below h.below (Nat.le_refl _)) (by omega) hcm
      rw [hlen1, hV1] at hr
      refine hr.mono ?_
      rintro e w' ⟨rfl, hb⟩
      refine ⟨_, rfl, ?_⟩
      rw [hd]
      exact (h.world hb).put ok 4 31 (by decide)
    · obtain ⟨o, ho, hg, hd, hop⟩ := so5
      refine wpOp_of ho hg (wp_move_ _ hop ?_)
      rw [hd, h.old rfl, e6]
      exact h.put ok 5 32 (by decide)
    · obtain ⟨o, ho, hg, hd, hop⟩ := so6
      have h1 := h.get 4 31 (by decide) (hneed 4 (by kernel_rfl))
      have h2 := h.get 5 32 (by decide) (hneed 5 (by kernel_rfl))
      have hv : (#[Operand.tmp 31, Operand.tmp 32] : Array Operand).map a.eval = #[.agg (wcells (Sh.stL s1)).toArray, .slice A2 tl.length c2] := by simp [h1, h2, sumVal]
      refine wpOp_of ho hg (wp_call_ _ _ _ _ hop hv (fun wx => by rw [← hv]; exact enter_call _ Try.f91 _ _ hop Try.func91 (by kernel_rfl) (by kernel_rfl)) ?_)
      have hr := sharun STEP s1 tl A2 c2 w (hA2.below h.below (Nat.le_refl _)) hc2 hcm2
      rw [hV2] at hr
      refine hr.mono ?_
      rintro e w' ⟨rfl, hb⟩
      refine ⟨_, rfl, ?_⟩
      rw [hd]
      exact (h.world hb).put ok 6 33 (by decide)
    · obtain ⟨o, ho, hg, hd, hop⟩ := so7
      refine wpOp_of ho hg (wp_alloc_ _ _ hop (alloc23 w) ?_)
      rw [hd]
      exact h.made ok hf _ (by simp)
    · obtain ⟨o, ho, hg, hd, hop⟩ := so8
      have hm : L.getD 7 false = true := hneed 7 (by kernel_rfl)
      have h1 := h.get 6 33 (by decide) (hneed 6 (by kernel_rfl))
      obtain ⟨g, k1, k2, Z, k3, k4, k5⟩ := h.m hm
      refine wpOp_of ho hg (wp_store_row _ _ _ hop g _ k1 h1 _ _ k3 (by rw [hi23]; rfl) (by rw [k4]; rfl) (wcells_one _) ?_)
      rw [hd]
      exact h.stored ok hm k1 rfl
  · intro L a w hL hall h
    exact hQ a w ⟨A1, L, h, by rw [← sumSize]; exact hall⟩
  · rw [sumSize]; rfl
  · rfl
  · exact ⟨rfl, rfl, fun _ _ => rfl, (Below.refl _ _).drew, fun p hp hL => by simp [Array.getD] at hL, fun hL => by simp at hL, fun hL => by simp at hL⟩
end Go.Proofs.Ytjhopgmionpkoaa
namespace Go.Proofs.Ytjhopgmionpkoaa
set_option maxRecDepth 20000
open Go.RowKit Mem

def digs : List UInt8 := [48, 49, 50, 51, 52, 53, 54, 55, 56, 57, 97, 98, 99, 100, 101, 102]
def dig (n : Nat) : UInt8 := digs.getD n 0
def hexB (c : UInt8) : List UInt8 := [dig (c.toNat / 16), dig (c.toNat % 16)]
def hexL (l : List UInt8) : List UInt8 := l.flatMap hexB
theorem hexL_len (l : List UInt8) : (hexL l).length = 2 * l.length := by
  induction l with
  | nil => rfl
  | cons c l ih => rw [hexL, List.flatMap_cons, List.length_append]; show 2 + (hexL l).length = _; rw [ih, List.length_cons]; omega
theorem hexL_succ (l : List UInt8) (k : Nat) (h : k < l.length) : hexL (l.take (k + 1)) = hexL (l.take k) ++ hexB (l[k]'h) := by
  rw [List.take_succ_eq_append_getElem h, hexL, List.flatMap_append]; simp [hexL]
theorem digs_at (n : Nat) (h : n < 16) : digs[n]? = some (dig n) := by
  unfold dig; rw [List.getD_eq_getElem?_getD, List.getElem?_eq_getElem (show n < digs.length from h)]; rfl
theorem run_index_u8 (w : World) (l : List UInt8) (k : Nat) (v : Value) (hk : k < 32) (hx : (bcells l).toArray[k]? = some v) :
    (Instr.index 44 (.agg (bcells l).toArray) (.int .i64 (k : Int))).run Try.prog w = .ok v w := by
  obtain ⟨i0, hi, hi0, hi1, hi2⟩ := info_parts infoByte
  have h : Try.prog.underlying 44 = some (.array 32 5) := by kernel_rfl
  have hk' : (0 : Int) ≤ (k : Int) ∧ (k : Int) < ((32 : Nat) : Int) := by omega
  simp [Instr.index, run_underlying h, asIntOf, hk', go_sem]
  rw [if_pos hk]
  rw [List.getElem?_toArray] at hx
  rw [hx]
  rfl
theorem run_index_digs (w : World) (n : Nat) (hn : n < 16) :
    (Instr.index 9 (.string ⟨#[48, 49, 50, 51, 52, 53, 54, 55, 56, 57, 97, 98, 99, 100, 101, 102]⟩) (.int .u8 (n : Int))).run Try.prog w = .ok (.int .u8 ((dig n).toNat : Int)) w := by
  rcases (show n = 0 ∨ n = 1 ∨ n = 2 ∨ n = 3 ∨ n = 4 ∨ n = 5 ∨ n = 6 ∨ n = 7 ∨ n = 8 ∨ n = 9 ∨ n = 10 ∨ n = 11 ∨ n = 12 ∨ n = 13 ∨ n = 14 ∨ n = 15 by omega) with rfl | rfl | rfl | rfl | rfl | rfl | rfl | rfl | rfl | rfl | rfl | rfl | rfl | rfl | rfl | rfl <;> (rw [run_index_string _ _ _ _ _ Try.underlying9]; rfl)
theorem dig_ba (n : Nat) (h : n < ByteArray.size ⟨#[48, 49, 50, 51, 52, 53, 54, 55, 56, 57, 97, 98, 99, 100, 101, 102]⟩) : ((⟨#[48, 49, 50, 51, 52, 53, 54, 55, 56, 57, 97, 98, 99, 100, 101, 102]⟩ : ByteArray)[n]'h).toNat = (dig n).toNat := by
  have hn : n < 16 := h
  rcases (show n = 0 ∨ n = 1 ∨ n = 2 ∨ n = 3 ∨ n = 4 ∨ n = 5 ∨ n = 6 ∨ n = 7 ∨ n = 8 ∨ n = 9 ∨ n = 10 ∨ n = 11 ∨ n = 12 ∨ n = 13 ∨ n = 14 ∨ n = 15 by omega) with rfl | rfl | rfl | rfl | rfl | rfl | rfl | rfl | rfl | rfl | rfl | rfl | rfl | rfl | rfl | rfl <;> rfl
theorem and15 (c : Nat) (h : c < 256) : bits .and .u8 (c : Int) 15 = ((c % 16 : Nat) : Int) := by
  have e : (15 : Int) = ((15 : Nat) : Int) := rfl
  rw [e, u8_and_nat c 15 (by omega) (by omega), Nat.and_two_pow_sub_one_eq_mod c 4]
end Go.Proofs.Ytjhopgmionpkoaa
namespace Go.Proofs.Ytjhopgmionpkoaa
set_option maxRecDepth 20000
open Go.RowKit Mem

def be8 (m : Nat) : List UInt8 := (List.range 8).map fun j => UInt8.ofNat (m / 2 ^ (56 - 8 * j) % 256)
theorem be8_len (m : Nat) : (be8 m).length = 8 := by simp [be8]
theorem be8_at (m j : Nat) (h : j < (be8 m).length) : (be8 m)[j]'h = UInt8.ofNat (m / 2 ^ (56 - 8 * j) % 256) := by simp [be8]
/-- how many noughts -/
def zeros (n : Nat) : Nat := (119 - n % 64) % 64
def padOf (n : Nat) : List UInt8 := (128 :: List.replicate (zeros n) 0) ++ be8 (n * 8)
theorem made_zero (v : Value) (n : Nat) : (madeCells #[v] n).toList = List.replicate n v := by
  apply List.ext_getElem
  · simp [size_madeCells]
  · intro i h1 h2
    simp [madeCells, Nat.mod_one]
theorem bcells_rep (n : Nat) : bcells (List.replicate n 0) = List.replicate n (.int .u8 0) := by simp [bcells]
theorem make_pad (L : Nat) (hL : L ≤ 73) : ∃ Z : List Value, Z.length = 73 ∧ Z = List.replicate 73 (.int .u8 0) ∧ ∀ wx : World,
    (Instr.makeSlice 31 (.int .i64 (L : Int)) (.int .i64 73)).run Try.prog wx = .ok (.slice (some ⟨wx.heap.size, 0, none⟩) L 73) (wx.alloc (.cells Z.toArray 5)) := by
  refine ⟨(madeCells #[.int .u8 0] 73).toList, by rw [Array.length_toList, size_madeCells], made_zero _ _, fun wx => ?_⟩
  obtain ⟨i, hi, hz, hs, hb⟩ := info_parts infoByte
  have := run_make (P := Try.prog) wx 31 5 i (.int .u8 0) Try.underlying31 hi hz .i64 .i64 (L : Int) 73 (by omega) (by omega) (by rw [hb]; omega) (by omega)
  rw [this, hs]
  have e1 : ((L : Int)).toNat = L := by omega
  rw [e1]
  rfl
set_option maxRecDepth 100000 in
set_option maxHeartbeats 4000000 in
theorem shapad_ok (n : Nat) (w : World) (hn : n ≤ 1152921504606846976) :
    Calls Try.prog 90 #[.int .i64 n] w fun e w' => ∃ v, e = .returned (.tuple #[v, .int .i64 0]) ∧ w'.ownsRow w.heap.size 5 1 v (padOf n).length (bcells (padOf n)) ∧ Below w.heap.size w w' := by
  obtain ⟨i0, hi, hi0, hi1, hi2⟩ := info_parts infoByte
  obtain ⟨L, hL⟩ : ∃ L, L = zeros n + 1 := ⟨_, rfl⟩
  have hLle : L ≤ 64 := by unfold zeros at hL; omega
  obtain ⟨Z, hZl, hZ, hmk⟩ := make_pad L (by omega)
  have hLi : 1 + (119 - (n : Int)) % 64 = (L : Int) := by unfold zeros at hL; omega
  have hZ0 : 0 < Z.length := by omega
  have hL0 : (0 : Int) < (L : Int) := by omega
  have HL := Lib.hid hL
  have HZ := Lib.hid hZ
  have b0 : (0 : Int) ≤ n := by omega
  have b1 : (n : Int) ≤ 1152921504606846976 := by omega
  clear hL hZ hn
  go_enter Try.func90, Try.ntmps90
  go_wp2_with fail
  have hst : (w.alloc (Obj.cells (Z.set 0 (Value.int IntKind.u8 128)).toArray 5)).ownsRow w.heap.size 5 1 (.slice (some ⟨w.heap.size, 0, none⟩) L 73) (L + 0) (bcells ((128 :: List.replicate (zeros n) 0) ++ (be8 (n * 8)).take 0)) := by
    have h1 := HL.out
    have h2 := HZ.out
    subst h1 h2
    refine ⟨by simp [bcells], .inr ⟨w.heap.size, 73, _, rfl, Nat.le_refl _, heap_alloc_new _ _, by omega, by unfold maxLen; omega, by simp, ?_⟩⟩
    rw [List.take_zero, List.append_nil, Nat.add_zero, Nat.mul_one]
    have e : (List.replicate 73 (Value.int IntKind.u8 0)).set 0 (Value.int IntKind.u8 128) = Value.int IntKind.u8 128 :: List.replicate 72 (Value.int IntKind.u8 0) := rfl
    rw [e, List.take_succ_cons, List.take_replicate, show min (zeros n) 72 = zeros n by unfold zeros; omega]
    unfold bcells
    rw [List.map_cons, List.map_replicate]
    rfl
  have HST := Lib.hid hst
  have HBB : Hid (Below w.heap.size w (w.alloc (Obj.cells (Z.set 0 (Value.int IntKind.u8 128)).toArray 5))) := (Below.refl _ _).alloc (Nat.le_refl _) _
  clear hst
  rw [show (119 - (n : Int) % 64) % 64 = (119 - (n : Int)) % 64 by omega]
  go_loopw [4, 5] (fun v i wr => ∃ j : Nat, j ≤ 8 ∧ i = .int .i64 (56 - 8 * (j : Int)) ∧ Hid (wr.ownsRow w.heap.size 5 1 v (L + j) (bcells ((128 :: List.replicate (zeros n) 0) ++ (be8 (n * 8)).take j))) ∧ Hid (Below w.heap.size w wr)) (fun _ i _ => (intOf i + 8).toNat)
  case atStart => exact ⟨0, by omega, rfl, HST, HBB⟩
  case round =>
    obtain ⟨j, hj, rfl, hO, hB⟩ := hrel
    by_cases hlt : j < 8
    · have q0 : (0 : Int) ≤ 56 - 8 * (j : Int) := by omega
      have hbz := hB.out.size
      have hju : j < (be8 (n * 8)).length := by rw [be8_len]; exact hlt
      have HB8 : Hid ((be8 (n * 8)).take (j + 1) = (be8 (n * 8)).take j ++ [UInt8.ofNat (n * 8 / 2 ^ (56 - 8 * j) % 256)]) := by
        unfold RowKit.Hid
        rw [List.take_succ_eq_append_getElem hju, be8_at]
      have HV : Hid ((n : Int) * 8 / 2 ^ (56 - 8 * j) % 256 = ((UInt8.ofNat (n * 8 / 2 ^ (56 - 8 * j) % 256)).toNat : Int)) := by
        unfold RowKit.Hid
        have e : (n : Int) * 8 / 2 ^ (56 - 8 * j) = ((n * 8 / 2 ^ (56 - 8 * j) : Nat) : Int) := by simp
        rw [e]
        generalize n * 8 / 2 ^ (56 - 8 * j) = q
        rw [UInt8.toNat_ofNat']
        omega
      go_wp2_with ((at_builtin; refine wpList_append_own _ rfl _ _ 31 rfl w.heap.size 5 i0 (.int .u8 0) 1 1 Try.underlying31 hi hi0 hi1 hi2 rfl (by decide) _ _ _ rfl (hO.out.alloc _) ⟨wr.heap.size, 0, none⟩ 1 1 [.int .u8 ((n : Int) * 8 / 2 ^ (56 - 8 * j) % 256)] rfl rfl ?k1 ?k2 ?k3 ?k4 ?k5 ?_))
      case k1 => exact cells_new _ _ _ _ rfl
      case k2 => intro u hu; rw [List.mem_singleton] at hu; subst hu; rfl
      case k3 => unfold maxLen; omega
      case k4 => omega
      case k5 => simp; omega
      intro v' w3 hown3 hgrow _
      have HB3 : Hid (Below w.heap.size w w3) := (hB.out.alloc hbz _).grown hgrow (by simp; omega) (fun b hb => (hO.out.lt b hb).1)
      have hcell : bcells ((128 :: List.replicate (zeros n) 0) ++ (be8 (n * 8)).take (j + 1)) = bcells ((128 :: List.replicate (zeros n) 0) ++ (be8 (n * 8)).take j) ++ [.int .u8 ((n : Int) * 8 / 2 ^ (56 - 8 * j) % 256)] := by
        rw [HB8.out, ← List.append_assoc, bcells_append _ [_], HV.out]
        rfl
      have HO3 : Hid (w3.ownsRow w.heap.size 5 1 v' (L + (j + 1)) (bcells ((128 :: List.replicate (zeros n) 0) ++ (be8 (n * 8)).take (j + 1)))) := by
        unfold RowKit.Hid
        rw [hcell]
        exact hown3
      clear hown3 hgrow hcell
      go_wp2_with fail
      go_roundw
      case rel => exact ⟨j + 1, by omega, by go_num, HO3, HB3⟩
      case measure => simp [intOf]; omega
    · obtain rfl : j = 8 := by omega
      have HF : Hid (L + 8 = (padOf n).length) := by
        unfold RowKit.Hid padOf
        rw [HL.out, List.length_append, be8_len, List.length_cons, List.length_replicate]
      have h8 := hO.out
      rw [List.take_of_length_le (by rw [be8_len]; omega), HF.out] at h8
      have H8 := Lib.hid h8
      clear h8
      go_wp2_with fail
      go_ret2
      exact ⟨_, rfl, H8.out, hB.out⟩
end Go.Proofs.Ytjhopgmionpkoaa
namespace Go.Proofs.Ytjhopgmionpkoaa
set_option maxRecDepth 20000
open Go.RowKit Mem

def wordB (x : UInt32) : List UInt8 := [UInt8.ofNat (x.toNat / 16777216 % 256), UInt8.ofNat (x.toNat / 65536 % 256), UInt8.ofNat (x.toNat / 256 % 256), UInt8.ofNat (x.toNat % 256)]
def outB (l : List UInt32) : List UInt8 := l.flatMap wordB
def tailOf (b : List UInt8) : List UInt8 := b.drop (b.length / 64 * 64) ++ padOf b.length
def endSt (b : List UInt8) : Sh.St := setZ (setZ Sh.first (b.take (b.length / 64 * 64)) (b.length / 64 * 64 / 64)) (tailOf b) ((tailOf b).length / 64)
def sumOf (b : List UInt8) : List UInt8 := outB (Sh.stL (endSt b))
theorem outB_len (l : List UInt32) : (outB l).length = 4 * l.length := by
  induction l with
  | nil => rfl
  | cons c l ih => rw [outB, List.flatMap_cons, List.length_append]; show 4 + (outB l).length = _; rw [ih, List.length_cons]; omega
theorem padOf_len (n : Nat) : (padOf n).length ≤ 72 := by
  unfold padOf zeros
  simp [be8_len]
  omega
theorem src_from {w : World} {A : Option Addr} {b : List UInt8} (c : Nat) (h : BSrc w A c b) (lo : Nat) (h1 : lo ≤ b.length) (h2 : b.length ≤ c) :
    ∃ A', BSrc w A' (c - lo) (b.drop lo) ∧ ∀ wx, (Instr.slice 31 (.slice A b.length c) (some (.int .i64 (lo : Int))) none none).run Try.prog wx = .ok (.slice A' (b.drop lo).length (c - lo)) wx := by
  have hb : BytesAt w A b := h.at_
  obtain ⟨A', hs, hb'⟩ := hb.sliced lo b.length c h1 (Nat.le_refl _) h2
  rw [List.take_length] at hb'
  refine ⟨A', ⟨by simp [bcells], ?_, ?_⟩, fun wx => ?_⟩
  · rintro rfl
    rcases A with _ | ad
    · obtain ⟨h3, h4⟩ := h.none rfl
      simp
      omega
    · unfold Go.sliced at hs
      injection hs with hs
      split at hs <;> cases hs
  · rintro ad rfl j u hu
    have hj : j < (b.drop lo).length := by
      rcases Nat.lt_or_ge j (b.drop lo).length with h5 | h5
      · exact h5
      · rw [List.getElem?_eq_none (by rw [bcells_length]; exact h5)] at hu; cases hu
    exact (hb'.src (by omega)).elim fun ad2 ⟨e, hc⟩ => by
      injection e with e
      subst e
      exact hc j u hu
  · rw [run_slice_l (P := Try.prog) wx _ A b.length c (by kernel_rfl) _ _ (by omega) (by omega), size_u8]
    simp only [Result.andThen, Int.toNat_natCast, hs, List.length_drop]
theorem run_index_ws (w : World) (l : List Value) (k : Nat) (v : Value) (hk : k < 8) (hx : l[k]? = some v) :
    (Instr.index 117 (.agg l.toArray) (.int .i64 (k : Int))).run Try.prog w = .ok v w := by
  have h : Try.prog.underlying 117 = some (.array 8 22) := by kernel_rfl
  have hk' : (0 : Int) ≤ (k : Int) ∧ (k : Int) < ((8 : Nat) : Int) := by omega
  have hi : ∃ i, Try.prog.info? 22 = some i ∧ i.size = 1 := ⟨_, rfl, rfl⟩
  obtain ⟨i, hi, hi1⟩ := hi
  simp [Instr.index, run_underlying h, asIntOf, hk', go_sem]
  rw [if_pos hk, hx]
  rfl
def outCells (s : Sh.St) (k : Nat) : Array Value := (bcells (outB ((Sh.stL s).take k) ++ List.replicate (32 - 4 * k) 0)).toArray
theorem outCells_size (s : Sh.St) (k : Nat) (hk : k ≤ 8) : (outCells s k).size = 32 := by
  unfold outCells
  rw [List.size_toArray, bcells_length, List.length_append, outB_len, List.length_take, List.length_replicate]
  have : (Sh.stL s).length = 8 := rfl
  omega
theorem outCells_step (s : Sh.St) (k : Nat) (hk : k < 8) : ∃ x : UInt32, (wcells (Sh.stL s))[k]? = some (.int .u32 (x.toNat : Int)) ∧
    ((((outCells s k).setIfInBounds (4 * k) (.int .u8 ((UInt8.ofNat (x.toNat / 16777216 % 256)).toNat : Int))).setIfInBounds (4 * k + 1) (.int .u8 ((UInt8.ofNat (x.toNat / 65536 % 256)).toNat : Int))).setIfInBounds (4 * k + 2) (.int .u8 ((UInt8.ofNat (x.toNat / 256 % 256)).toNat : Int))).setIfInBounds (4 * k + 3) (.int .u8 ((UInt8.ofNat (x.toNat % 256)).toNat : Int)) = outCells s (k + 1) := by
  rcases (show k = 0 ∨ k = 1 ∨ k = 2 ∨ k = 3 ∨ k = 4 ∨ k = 5 ∨ k = 6 ∨ k = 7 by omega) with rfl | rfl | rfl | rfl | rfl | rfl | rfl | rfl <;> exact ⟨_, rfl, by kernel_rfl⟩
theorem wp_congr_world {P : Program} {c : Code} {Q : Exit → Act → World → Prop} {a : Act} {W W1 : World} (h : W1 = W) (hc : c.wp P Q a W1) : c.wp P Q a W := h ▸ hc
theorem Calls.congr_world {P : Program} {f : FuncId} {args : Array Value} {W W1 : World} {Q : Ending → World → Prop} (h : W1 = W) (hc : Calls P f args W1 Q) : Calls P f args W Q := h ▸ hc
set_option maxRecDepth 100000 in
set_option maxHeartbeats 4000000 in
theorem shasum (STEP : StepOk) (b : List UInt8) (A : Option Addr) (c : Nat) (w : World) (hA : BSrc w A c b) (hc : b.length ≤ c) (hm : b.length ≤ 140737488351232) (hm2 : c ≤ 9223372036854775807) :
    Calls Try.prog 74 #[.slice A b.length c] w fun e w' => e = .returned (.agg (bcells (sumOf b)).toArray) ∧ Below w.heap.size w w' := by
  obtain ⟨i0, hi, hi0, hi1, hi2⟩ := info_parts infoByte
  have HA := Lib.hid hA
  have HSTEP := Lib.hid STEP
  have HE : Hid (sumOf b = outB (Sh.stL (endSt b))) := rfl
  have HPAD := Lib.hid (fun W => shapad_ok b.length W (by omega))
  have HPL := Lib.hid (padOf_len b.length)
  clear hA STEP
  go_enter Try.func74, Try.ntmps74
  go_upto_region 4 with fail
  obtain ⟨W1, hW1⟩ : ∃ W1, W1 = w.alloc (.cells (Array.replicate 32 (.int .u8 0)) 44) := ⟨_, rfl⟩
  have HR0 : Hid (W1.heap[w.heap.size]? = some (.cells (Array.replicate 32 (.int .u8 0)) 44 (0, 0))) := by rw [hW1]; exact heap_alloc_new _ _
  have HS1 : Hid (W1.heap.size = w.heap.size + 1) := by rw [hW1]; simp [RowKit.Hid]
  have HB1 : Hid (Below w.heap.size w W1) := by rw [hW1]; exact (Below.refl _ _).alloc (Nat.le_refl _) _
  refine Calls.congr_world (W1 := W1) hW1 ?_
  refine (HPAD.out _).mono ?_
  rintro e w1 ⟨vp, rfl, hop, hb1⟩
  obtain ⟨Ap, cp, rfl⟩ := own_slice hop
  have HOP := Lib.hid (Src.of_own hop)
  have HOB := Lib.hid hop
  have HR1 := Lib.hid ((hb1.block _ (by have := HS1.out; omega)).trans HR0.out)
  have HB2 := Lib.hid (HB1.out.trans (hb1.mono HB1.out.size))
  have hz1 := hb1.size
  have HZ1 : Hid (w.heap.size + 1 ≤ w1.heap.size) := by have := HS1.out; unfold RowKit.Hid; omega
  clear hop hb1 hz1
  have HTL : Hid (tailOf b = b.drop (b.length / 64 * 64) ++ padOf b.length) := rfl
  have HES : Hid (endSt b = setZ (setZ Sh.first (b.take (b.length / 64 * 64)) (b.length / 64 * 64 / 64)) (tailOf b) ((tailOf b).length / 64)) := rfl
  obtain ⟨A', hA', hsl⟩ := src_from c (HA.out.below HB2.out (Nat.le_refl _)) (b.length / 64 * 64) (by omega) hc
  have HA' := Lib.hid hA'
  have e : ((b.length / 64 * 64 : Nat) : Int) = (b.length : Int) / 64 * 64 := by omega
  rw [e] at hsl
  have hdl : (b.drop (b.length / 64 * 64)).length ≤ 63 := by rw [List.length_drop]; omega
  have HDL := Lib.hid hdl
  have q0 : (0 : Int) ≤ (b.length : Int) / 64 := by omega
  have q1 : (b.length : Int) / 64 ≤ 140737488355328 := by omega
  clear hA' e hdl
  generalize padOf b.length = pd at *
  generalize hdb : b.drop (b.length / 64 * 64) = db at *
  clear hdb
  go_upto_region 4 with (first
    | (at_builtin; refine wpList_app_any rfl (.const (.slice none 0 0)) (.tmp 23) 31 rfl w1.heap.size 5 i0 (.int .u8 0) 1 1 Try.underlying31 hi hi0 hi1 hi2 rfl (by decide) (.slice none 0 0) 0 [] rfl (World.ownsRow_nil _ _ _ _) A' db.length (c - b.length / 64 * 64) (bcells db) rfl HA'.out (bcells_one db) ?c3 ?c4 (Nat.le_refl _) ?_))
  case c3 => have := HDL.out; unfold maxLen; omega
  case c4 => have := HDL.out; omega
  intro v1 w2 hown1 hg1
  have HB3 : Hid (Below w1.heap.size w1 w2) := below_of_grown hg1 (Nat.le_refl _) (fun g hg => by cases hg)
  have HO1 : Hid (w2.ownsRow w1.heap.size 5 1 v1 db.length (bcells db)) := hown1
  clear hown1 hg1 hsl
  go_upto_region 4 with (first
    | (at_builtin; refine wpList_app_any rfl (.tmp 24) (.tmp 25) 31 rfl w1.heap.size 5 i0 (.int .u8 0) 1 1 Try.underlying31 hi hi0 hi1 hi2 rfl (by decide) v1 db.length (bcells db) rfl HO1.out Ap pd.length cp (bcells pd) rfl (HOP.out.below HB3.out (Nat.le_refl _)) (bcells_one pd) ?d3 ?d4 HB3.out.size ?_))
  case d3 => have := HDL.out; have := HPL.out; unfold maxLen; omega
  case d4 => have := HDL.out; have := HPL.out; omega
  intro v2 w3 hown2 hg2
  have HB4 : Hid (Below w1.heap.size w1 w3) := HB3.out.trans (below_of_grown hg2 HB3.out.size (fun g hg => (HO1.out.lt g hg).1))
  have ho : w3.ownsRow w1.heap.size 5 1 v2 (tailOf b).length (bcells (tailOf b)) := by
    rw [HTL.out, List.length_append, bcells_append]; exact hown2
  have htl : (tailOf b).length = db.length + pd.length := by rw [HTL.out, List.length_append]
  have HO2 := Lib.hid ho
  obtain ⟨A2, c2, rfl⟩ := own_slice ho
  have hcap : (tailOf b).length ≤ c2 ∧ c2 ≤ 9223372036854775807 := by
    rcases ho.2 with ⟨hv, h0⟩ | ⟨g, cap, cur, hv, _, _, hn', hc', _⟩
    · injection hv with _ h1 h2; omega
    · injection hv with _ h1 h2; unfold maxLen at hc'; omega
  have HAt := Lib.hid (BytesAt.of_own ho)
  have HA3 := Lib.hid ((HA.out.below HB2.out (Nat.le_refl _)).below HB4.out (Nat.le_refl _))
  have HR3 := Lib.hid ((HB4.out.block _ (by have := HZ1.out; omega)).trans HR1.out)
  have HB5 := Lib.hid (HB2.out.trans (HB4.out.mono HB2.out.size))
  have HZ3 : Hid (w.heap.size + 1 ≤ w3.heap.size) := by have := HZ1.out; have := HB4.out.size; unfold RowKit.Hid; omega
  clear hown2 hg2 ho htl
  have e : (b.length : Int) / 64 * 64 = ((b.length / 64 * 64 : Nat) : Int) := by omega
  rw [e]
  clear e q0 q1 HTL HOP HOB HPAD HPL HDL HA' HO1 HB3 HB4 HR0 HR1 HB1 HB2 HS1 HZ1 hW1
  have HHC := Lib.hid hcap
  clear hcap
  go_upto_region 4 with fail
  go_cut [7] (fun s7 wx => ∃ g7 : Nat, s7 = .pointer (some ⟨g7, 0, none⟩) ∧ w3.heap.size ≤ g7 ∧ wx.heap[g7]? = some (.cells (wcells (Sh.stL (endSt b))).toArray 117 (0, 0)) ∧ Below w3.heap.size w3 wx)
  case first =>
    as_aux_lemma =>
      refine wp_region_any (by kernel_rfl) ?_
      refine wpAny_ops (ops' := sumOps) (by kernel_rfl) ?_
      refine sumRegion HSTEP.out b (tailOf b) A A2 c c2 (b.length / 64 * 64) _ w3 (by simp) rfl rfl rfl (BSrc.at_ HA3.out) HAt.out hc (by omega) HHC.out.1 HHC.out.2 (by omega) ?_
      rintro a wx ⟨A1, L, h, hall⟩
      rw [← HES.out] at h
      obtain ⟨g7, k1, k2, Z, k3, k4, k5⟩ := h.m (hall 7 (by omega))
      obtain rfl := k5 (hall 8 (by omega))
      have hf := put_form [7, 27, 28, 29, 30, 31, 32, 33] _ h.sz h.df (fun j hj => h.rest j (by simp at hj; simp [sumOwn, hj]))
      rw [hf]
      simp only [List.foldl, k1, h.get 0 27 (by decide) (hall 0 (by omega)), h.get 1 28 (by decide) (hall 1 (by omega)), h.get 2 29 (by decide) (hall 2 (by omega)), h.get 3 30 (by decide) (hall 3 (by omega)), h.get 4 31 (by decide) (hall 4 (by omega)), h.get 5 32 (by decide) (hall 5 (by omega)), h.get 6 33 (by decide) (hall 6 (by omega)), sumVal]
      simp only [Act.put, List.setIfInBounds_toArray, List.set_cons_zero, List.set_cons_succ]
      have hm : ∃ g : Nat, Value.pointer (some ⟨g7, 0, none⟩) = .pointer (some ⟨g, 0, none⟩) ∧ w3.heap.size ≤ g ∧ wx.heap[g]? = some (.cells (wcells (Sh.stL (endSt b))).toArray 117 (0, 0)) ∧ Below w3.heap.size w3 wx := ⟨g7, rfl, k2, k3, h.below⟩
      clear h hf k1 k2 k3 k4 k5
      go_wp2_with fail
      go_meet
      exact hm
  case rest =>
    obtain ⟨g7, rfl, hg7, hh, hb⟩ := hcut
    have HG7 := Lib.hid hg7
    have HH := Lib.hid hh
    have HBC := Lib.hid hb
    have hi : (Try.prog.info? 117).map (·.size) = some 8 := by kernel_rfl
    have HI := Lib.hid hi
    have HS8 : Hid ((wcells (Sh.stL (endSt b))).toArray.size = 8) := by unfold RowKit.Hid; rw [List.size_toArray, wcells_length]; rfl
    clear hi hh hb hg7
    obtain ⟨WZ, hWZ⟩ : ∃ WZ, WZ = wc.alloc (.cells (Array.replicate 32 (.int .u8 0)) 44) := ⟨_, rfl⟩
    have HZh : Hid (WZ.heap[wc.heap.size]? = some (.cells (outCells (endSt b) 0) 44 (0, 0))) := by rw [hWZ]; exact heap_alloc_new _ _
    have HZ7 : Hid (WZ.heap[g7]? = some (.cells (wcells (Sh.stL (endSt b))).toArray 117 (0, 0))) := by rw [hWZ]; exact (heap_alloc_old wc _ (Array.getElem?_eq_some_iff.1 HH.out).1).trans HH.out
    have HZB : Hid (Below w.heap.size w WZ) := by rw [hWZ]; exact (HB5.out.trans (HBC.out.mono HB5.out.size)).alloc (by have := HBC.out.size; have := HZ3.out; omega) _
    have HZR : Hid (WZ.heap[w.heap.size]? = some (.cells (Array.replicate 32 (.int .u8 0)) 44 (0, 0))) := by
      rw [hWZ]
      have h1 := (HBC.out.block _ (by have := HZ3.out; omega)).trans HR3.out
      exact (heap_alloc_old wc _ (Array.getElem?_eq_some_iff.1 h1).1).trans h1
    have HWC : Hid (w.heap.size < wc.heap.size) := by have := HBC.out.size; have := HZ3.out; unfold RowKit.Hid; omega
    generalize hes : endSt b = es at *
    have HWZ := Lib.hid hWZ
    have HL7 : Hid ((wc.alloc (.cells (Array.replicate 32 (.int .u8 0)) 44)).heap[g7]? = some (.cells (wcells (Sh.stL es)).toArray 117 (0, 0))) := by rw [← hWZ]; exact HZ7.out
    clear hWZ
    go_wp2_with (refine wpList_load_row rfl 117 (.tmp 7) rfl g7 rfl _ _ _ (.array 8 22) HL7.out (by kernel_rfl) rfl (by rw [HI.out, HS8.out]) ?_)
    refine wp_congr_world (W1 := WZ) HWZ.out ?_
    have HST : Hid (∀ k, k < 8 → ∃ x : UInt32, (wcells (Sh.stL es))[k]? = some (.int .u32 (x.toNat : Int)) ∧
      ((((outCells es k).setIfInBounds (4 * k) (.int .u8 ((UInt8.ofNat (x.toNat / 16777216 % 256)).toNat : Int))).setIfInBounds (4 * k + 1) (.int .u8 ((UInt8.ofNat (x.toNat / 65536 % 256)).toNat : Int))).setIfInBounds (4 * k + 2) (.int .u8 ((UInt8.ofNat (x.toNat / 256 % 256)).toNat : Int))).setIfInBounds (4 * k + 3) (.int .u8 ((UInt8.ofNat (x.toNat % 256)).toNat : Int)) = outCells es (k + 1)) := fun k hk => outCells_step es k hk
    have HSZ : Hid (∀ k, k ≤ 8 → (outCells es k).size = 32) := fun k hk => outCells_size es k hk
    have HFI : Hid (outCells es 8 = (bcells (sumOf b)).toArray) := by
      unfold RowKit.Hid
      rw [HE.out]
      unfold outCells
      rw [show 32 - 4 * 8 = 0 from rfl, List.replicate_zero, List.append_nil, List.take_of_length_le (Nat.le_refl 8)]
    clear HH HL7 HS8 HI HES HA3 HAt HO2 HR3 HB5 HZ3 HHC HBC HG7 HZ7 HWZ HE
    generalize outCells es = oc at *
    generalize wcells (Sh.stL es) = ws at *
    have HZh' := HZh
    go_loopw [35] (fun i wr => ∃ k : Nat, k ≤ 8 ∧ i = .int .i64 k ∧ Hid (wr.heap[wc.heap.size]? = some (.cells (oc k) 44 (0, 0))) ∧ Hid (wr.heap[w.heap.size]? = some (.cells (Array.replicate 32 (.int .u8 0)) 44 (0, 0))) ∧ Hid (Below w.heap.size w wr)) (fun i _ => 8 - (intOf i).toNat)
    case atStart => exact ⟨0, by omega, rfl, HZh, HZR, HZB⟩
    case round =>
      obtain ⟨k, hk, rfl, h8, h0, hB⟩ := hrel
      by_cases hlt : k < 8
      · obtain ⟨x, hx, hst⟩ := HST.out k hlt
        have HSK := Lib.hid hst
        have ix := run_index_ws wr ws k _ hlt hx
        clear hx hst
        have hsz := HSZ.out k (by omega)
        have hcell : ∀ j, j < 32 → ∃ v, wr.cell? ⟨wc.heap.size, j, none⟩ = some v := fun j hj => ⟨(oc k)[j]'(by omega), by rw [cell_of_row wr wc.heap.size j _ _ (0, 0) h8.out, Array.getElem?_eq_getElem (by omega)]⟩
        obtain ⟨v0, y0⟩ := hcell (4 * k) (by omega)
        obtain ⟨v1', y1⟩ := hcell (4 * k + 1) (by omega)
        obtain ⟨v2', y2⟩ := hcell (4 * k + 2) (by omega)
        obtain ⟨v3', y3⟩ := hcell (4 * k + 3) (by omega)
        have z0 := frozen_of_row wr wc.heap.size (4 * k) _ _ h8.out
        have z1 := frozen_of_row wr wc.heap.size (4 * k + 1) _ _ h8.out
        have z2 := frozen_of_row wr wc.heap.size (4 * k + 2) _ _ h8.out
        have z3 := frozen_of_row wr wc.heap.size (4 * k + 3) _ _ h8.out
        have hx1 : x.toNat < 4294967296 := x.toNat_lt
        generalize hxn : x.toNat = xn at *
        have X0 : (0 : Int) ≤ (xn : Int) := by omega
        have X1 : (xn : Int) ≤ 4294967295 := by omega
        have r0 : (0 : Int) ≤ 4 * (k : Int) := by omega
        have r1 : 4 * (k : Int) < 32 := by omega
        have r2 : 4 * (k : Int) + 1 < 32 := by omega
        have r3 : 4 * (k : Int) + 2 < 32 := by omega
        have r4 : 4 * (k : Int) + 3 < 32 := by omega
        have s1 : (0 : Int) ≤ 4 * (k : Int) + 1 := by omega
        have s2 : (0 : Int) ≤ 4 * (k : Int) + 2 := by omega
        have s3 : (0 : Int) ≤ 4 * (k : Int) + 3 := by omega
        have t0 : (4 * (k : Int)).toNat = 4 * k := by omega
        have t1 : (4 * (k : Int) + 1).toNat = 4 * k + 1 := by omega
        have t2 : (4 * (k : Int) + 2).toNat = 4 * k + 2 := by omega
        have t3 : (4 * (k : Int) + 3).toNat = 4 * k + 3 := by omega
        have HN8 : Hid (∀ u0 u1 u2 u3, ((((wr.setCell ⟨wc.heap.size, 4 * k, none⟩ u0).setCell ⟨wc.heap.size, 4 * k + 1, none⟩ u1).setCell ⟨wc.heap.size, 4 * k + 2, none⟩ u2).setCell ⟨wc.heap.size, 4 * k + 3, none⟩ u3).heap[wc.heap.size]? = some (.cells (((((oc k).setIfInBounds (4 * k) u0).setIfInBounds (4 * k + 1) u1).setIfInBounds (4 * k + 2) u2).setIfInBounds (4 * k + 3) u3) 44 (0, 0))) := fun u0 u1 u2 u3 =>
          heap_setCell_same _ _ _ _ _ u3 (heap_setCell_same _ _ _ _ _ u2 (heap_setCell_same _ _ _ _ _ u1 (heap_setCell_same _ _ _ _ _ u0 h8.out)))
        have HN0 : Hid (∀ u0 u1 u2 u3, ((((wr.setCell ⟨wc.heap.size, 4 * k, none⟩ u0).setCell ⟨wc.heap.size, 4 * k + 1, none⟩ u1).setCell ⟨wc.heap.size, 4 * k + 2, none⟩ u2).setCell ⟨wc.heap.size, 4 * k + 3, none⟩ u3).heap[w.heap.size]? = some (.cells (Array.replicate 32 (.int .u8 0)) 44 (0, 0))) := fun u0 u1 u2 u3 => by
          have hne : w.heap.size ≠ wc.heap.size := by have := HWC.out; omega
          rw [heap_setCell_other _ _ _ _ hne, heap_setCell_other _ _ _ _ hne, heap_setCell_other _ _ _ _ hne, heap_setCell_other _ _ _ _ hne]
          exact h0.out
        have HNB : Hid (∀ u0 u1 u2 u3, Below w.heap.size w ((((wr.setCell ⟨wc.heap.size, 4 * k, none⟩ u0).setCell ⟨wc.heap.size, 4 * k + 1, none⟩ u1).setCell ⟨wc.heap.size, 4 * k + 2, none⟩ u2).setCell ⟨wc.heap.size, 4 * k + 3, none⟩ u3)) := fun u0 u1 u2 u3 => by
          have hg : w.heap.size ≤ wc.heap.size := by have := HWC.out; omega
          exact (((hB.out.setCell hg _).setCell hg _).setCell hg _).setCell hg _
        have HE0 : Hid ((xn : Int) / 16777216 = ((UInt8.ofNat (xn / 16777216 % 256)).toNat : Int)) := by unfold RowKit.Hid; rw [UInt8.toNat_ofNat']; omega
        have HE1 : Hid ((xn : Int) / 65536 % 256 = ((UInt8.ofNat (xn / 65536 % 256)).toNat : Int)) := by unfold RowKit.Hid; rw [UInt8.toNat_ofNat']; omega
        have HE2 : Hid ((xn : Int) / 256 % 256 = ((UInt8.ofNat (xn / 256 % 256)).toNat : Int)) := by unfold RowKit.Hid; rw [UInt8.toNat_ofNat']; omega
        have HE3 : Hid ((xn : Int) % 256 = ((UInt8.ofNat (xn % 256)).toNat : Int)) := by unfold RowKit.Hid; rw [UInt8.toNat_ofNat']; omega
        clear hcell hsz hxn
        go_upto_region 9 with fail
        clear ix
        go_upto_region 10 with fail
        clear y0 y1 y2 y3 z0 z1 z2 z3 s1 s2 s3 t0 t1 t2 t3 r1 r2 r3 r4
        go_wp2_with fail
        go_roundw
        case rel =>
          refine ⟨k + 1, by omega, by go_num, ?_, HN0.out _ _ _ _, HNB.out _ _ _ _⟩
          unfold RowKit.Hid
          rw [HE0.out, HE1.out, HE2.out, HE3.out, HN8.out, HSK.out]
        case measure => simp [intOf]; omega
      · obtain rfl : k = 8 := by omega
        have hi : (Try.prog.info? 44).map (·.size) = some 32 := by kernel_rfl
        have HI := Lib.hid hi
        have HS32 := Lib.hid (HSZ.out 8 (Nat.le_refl _))
        clear hi
        rw [HFI.out] at h8 HS32
        have HONE : Hid ((bcells (sumOf b)).toArray.all (·.oneCell') = true) := by unfold RowKit.Hid bcells; simp [Value.oneCell']
        generalize hfin : bcells (sumOf b) = fin at *
        have HFIN := Lib.hid hfin
        clear hfin
        go_wp2_with (first
          | refine wpList_load_row rfl 44 (.tmp 8) rfl wc.heap.size rfl _ _ _ (.array 32 5) h8.out (by kernel_rfl) rfl (by rw [HI.out, HS32.out]) ?_
          | refine wpList_store_row rfl 44 (.tmp 2) (.tmp 66) rfl w.heap.size fin.toArray rfl rfl _ _ h0.out (by rw [HI.out, HS32.out]) (by rw [HS32.out]; rfl) HONE.out ?_)
        exact bodyPost_ret (v := .agg fin.toArray) (results_cell_row (P := Try.prog) (d := .array 32 5) rfl _ _ w.heap.size _ _ _ rfl (setRow_heap _ _ _ _ _ _ h0.out) (by kernel_rfl) rfl (by rw [HI.out, HS32.out])) rfl ⟨by rw [HFIN.out], below_setRow hB.out (Nat.le_refl _)⟩
end Go.Proofs.Ytjhopgmionpkoaa
namespace Go.Proofs.Ytjhopgmionpkoaa
set_option maxRecDepth 20000
open Go.RowKit Mem

/-- a digit's value -/
def nib (c : UInt8) : Option Nat := if 48 ≤ c.toNat ∧ c.toNat ≤ 57 then some (c.toNat - 48) else if 97 ≤ c.toNat ∧ c.toNat ≤ 102 then some (c.toNat - 87) else none
theorem nib_lt {c : UInt8} {n : Nat} (h : nib c = some n) : n < 16 := by
  unfold nib at h
  split at h
  · injection h; omega
  · split at h
    · injection h; omega
    · cases h
theorem nib_dig : ∀ n, n < 16 → nib (dig n) = some n := by decide
def pairAt (l : List UInt8) (i : Nat) : Option UInt8 := (nib (l.getD (2 * i) 0)).bind fun h => (nib (l.getD (2 * i + 1) 0)).map fun k => UInt8.ofNat (16 * h + k)
def pre (l : List UInt8) (k : Nat) : List UInt8 := (List.range k).map fun i => (pairAt l i).getD 0
theorem pre_len (l : List UInt8) (k : Nat) : (pre l k).length = k := by simp [pre]
theorem pre_succ (l : List UInt8) (k : Nat) : pre l (k + 1) = pre l k ++ [(pairAt l k).getD 0] := by simp [pre, List.range_succ]
def allP (l : List UInt8) (k : Nat) : Bool := (List.range k).all fun i => (pairAt l i).isSome
theorem allP_succ (l : List UInt8) (k : Nat) : allP l (k + 1) = (allP l k && (pairAt l k).isSome) := by simp [allP, List.range_succ]
theorem allP_none {l : List UInt8} {k : Nat} (n : Nat) (hk : k < n) (h : pairAt l k = none) : allP l n = false := by
  rw [allP, List.all_eq_false]
  exact ⟨k, List.mem_range.2 hk, by simp [h]⟩
/-- what a text says as a sum -/
def unhexV (l : List UInt8) : List UInt8 × Int := if l.length = 64 ∧ allP l 32 = true then (pre l 32, 0) else (List.replicate 32 0, 4)
theorem unhexV_bad {l : List UInt8} (h : l.length ≠ 64) : unhexV l = (List.replicate 32 0, 4) := if_neg (fun h2 => h h2.1)
theorem unhexV_no {l : List UInt8} {k : Nat} (hk : k < 32) (h : pairAt l k = none) : unhexV l = (List.replicate 32 0, 4) := if_neg (fun h2 => by rw [allP_none 32 hk h] at h2; cases h2.2)
theorem unhexV_ok {l : List UInt8} (h : l.length = 64) (h2 : allP l 32 = true) : unhexV l = (pre l 32, 0) := if_pos ⟨h, h2⟩
theorem unhexV_len (l : List UInt8) : (unhexV l).1.length = 32 := by
  unfold unhexV
  split
  · exact pre_len l 32
  · simp
theorem hexL_get (l : List UInt8) : ∀ i (h : i < l.length), (hexL l).getD (2 * i) 0 = dig ((l[i]'h).toNat / 16) ∧ (hexL l).getD (2 * i + 1) 0 = dig ((l[i]'h).toNat % 16) := by
  induction l with
  | nil => intro i h; exact absurd h (by simp)
  | cons c l ih =>
    intro i h
    have e : hexL (c :: l) = dig (c.toNat / 16) :: dig (c.toNat % 16) :: hexL l := rfl
    cases i with
    | zero => rw [e]; exact ⟨rfl, rfl⟩
    | succ i =>
      have := ih i (by simpa using h)
      rw [e, show 2 * (i + 1) = (2 * i + 1) + 1 by omega, show 2 * i + 1 + 1 + 1 = (2 * i + 1 + 1) + 1 by omega]
      simpa using this
theorem pairAt_hex (l : List UInt8) (i : Nat) (h : i < l.length) : pairAt (hexL l) i = some (l[i]'h) := by
  obtain ⟨h1, h2⟩ := hexL_get l i h
  have hc := (l[i]'h).toNat_lt
  unfold pairAt
  rw [h1, h2, nib_dig _ (by omega), nib_dig _ (by omega)]
  simp only [Option.bind_some, Option.map_some]
  congr 1
  apply UInt8.toNat_inj.1
  rw [UInt8.toNat_ofNat']
  omega
/-- what is written is read as it was -/
theorem unhexV_hex (l : List UInt8) (hl : l.length = 32) : unhexV (hexL l) = (l, 0) := by
  have h1 : (hexL l).length = 64 := by rw [hexL_len, hl]
  have h2 : allP (hexL l) 32 = true := by
    rw [allP, List.all_eq_true]
    intro i hi
    rw [pairAt_hex l i (by have := List.mem_range.1 hi; omega)]
    rfl
  rw [unhexV_ok h1 h2]
  congr 1
  apply List.ext_getElem
  · rw [pre_len, hl]
  · intro i h3 h4
    simp [pre, pairAt_hex l i h4]

theorem run_index_at (l : List UInt8) (k : Nat) (h : k < l.length) (n : Int) (hn : n = k) (w : World) :
    (Instr.index 9 (.string ⟨l.toArray⟩) (.int .i64 n)).run Try.prog w = .ok (.int .u8 ((l[k]'h).toNat : Int)) w := by
  subst hn
  have hs : (⟨l.toArray⟩ : ByteArray).size = l.length := rfl
  rw [run_index_string _ _ _ _ _ Try.underlying9, dif_pos ⟨by omega, by rw [hs]; omega⟩]
  rfl
theorem zero_cells : (bcells (List.replicate 32 0)).toArray = Array.replicate 32 (.int .u8 0) := by kernel_rfl
def preC (l : List UInt8) (k : Nat) : Array Value := (bcells (pre l k ++ List.replicate (32 - k) 0)).toArray
theorem preC_zero (l : List UInt8) : preC l 0 = Array.replicate 32 (.int .u8 0) := zero_cells
theorem preC_size (l : List UInt8) (k : Nat) (hk : k ≤ 32) : (preC l k).size = 32 := by
  unfold preC
  rw [List.size_toArray, bcells_length, List.length_append, pre_len, List.length_replicate]
  omega
theorem preC_step (l : List UInt8) (k : Nat) (hk : k < 32) (x : UInt8) (hx : pairAt l k = some x) : (preC l k).setIfInBounds k (.int .u8 (x.toNat : Int)) = preC l (k + 1) := by
  unfold preC
  rw [List.setIfInBounds_toArray, pre_succ, hx, Option.getD_some]
  congr 1
  obtain ⟨m, hm⟩ : ∃ m, 32 - k = m + 1 := ⟨31 - k, by omega⟩
  have e : 32 - (k + 1) = m := by omega
  rw [hm, e, List.replicate_succ, bcells_append, bcells_append, bcells_append, List.append_assoc]
  have hl : (bcells (pre l k)).length = k := by rw [bcells_length, pre_len]
  rw [List.set_append_right _ _ (by omega), hl, Nat.sub_self]
  rfl
theorem preC_last (l : List UInt8) : preC l 32 = (bcells (pre l 32)).toArray := by unfold preC; rw [show 32 - 32 = 0 from rfl, List.replicate_zero, List.append_nil]
theorem join16 (h k : Nat) (hh : h < 16) (hk : k < 16) : bits .or .u8 ((h : Int) * 16) (k : Int) = ((UInt8.ofNat (16 * h + k)).toNat : Int) := by
  have e : (h : Int) * 16 = ((h * 16 : Nat) : Int) := by simp
  rw [e, u8_or_nat _ _ (by omega) (by omega), nat_join 4 _ _ (by omega) (by omega), UInt8.toNat_ofNat']
  omega
theorem cells_one32 (l : List UInt8) : (bcells l).toArray.all (·.oneCell') = true := by unfold bcells; simp [Value.oneCell']
theorem sumOf_len (b : List UInt8) : (sumOf b).length = 32 := by
  unfold sumOf
  rw [outB_len]
  rfl
theorem src_new (w : World) (t : TypeId) (fr : Nat × Nat) (l : List UInt8) (n g : Nat) (hn : n = l.length) (hg : g = w.heap.size) : Src (w.alloc (.cells (bcells l).toArray t fr)) (some ⟨g, 0, none⟩) n n (bcells l) 1 :=
  ⟨by rw [bcells_length, hn, Nat.mul_one], fun h => (by cases h), fun ad h j u hu => by
    injection h with h
    subst h
    subst hg
    rw [add_at, cell_of_row _ w.heap.size j _ t fr (heap_alloc_new w _)]
    simpa using hu⟩
def abc : List UInt8 := [97, 98, 99]
def abcHex : List UInt8 := [98, 97, 55, 56, 49, 54, 98, 102, 56, 102, 48, 49, 99, 102, 101, 97, 52, 49, 52, 49, 52, 48, 100, 101, 53, 100, 97, 101, 50, 50, 50, 51, 98, 48, 48, 51, 54, 49, 97, 51, 57, 54, 49, 55, 55, 97, 57, 99, 98, 52, 49, 48, 102, 102, 54, 49, 102, 50, 48, 48, 49, 53, 97, 100]
theorem abc_hex : hexL (sumOf abc) = abcHex := by decide +kernel
end Go.Proofs.Ytjhopgmionpkoaa
namespace Go.Proofs.Ytjhopgmionpkoaa
set_option maxRecDepth 20000
open Go.RowKit Mem

theorem shapad_bad (n : Int) (w : World) (hn : n < 0 ∨ 1152921504606846976 < n) :
    Calls Try.prog 90 #[.int .i64 n] w fun e w' => e = .returned (.tuple #[.slice none 0 0, .int .i64 1]) ∧ w = w' := by
  by_cases h : n < 0
  · clear hn
    go_enter Try.func90, Try.ntmps90
    go_wp2_with fail
    go_ret2
    exact ⟨rfl, rfl⟩
  · have h2 : 1152921504606846976 < n := by omega
    clear hn
    go_enter Try.func90, Try.ntmps90
    go_wp2_with fail
    go_ret2
    exact ⟨rfl, rfl⟩
theorem refpad_bad (n : Int) (w : World) (hn : n < 0 ∨ 1152921504606846976 < n) :
    Calls Try.prog 100 #[.int .i64 n] w fun e w' => e = .returned (.tuple #[.slice none 0 0, .int .i64 1]) ∧ w = w' := by
  by_cases h : n < 0
  · clear hn
    go_enter Try.func100, Try.ntmps100
    go_wp2_with fail
    go_ret2
    exact ⟨rfl, rfl⟩
  · have h2 : 1152921504606846976 < n := by omega
    clear hn
    go_enter Try.func100, Try.ntmps100
    go_wp2_with fail
    go_ret2
    exact ⟨rfl, rfl⟩
def sliceLen : Value → Nat
  | .slice _ l _ => l
  | _ => 0
def le8 (m k : Nat) : List UInt8 := (List.range k).map fun j => UInt8.ofNat (m / 256 ^ j % 256)
theorem le8_len (m k : Nat) : (le8 m k).length = k := by simp [le8]
theorem le8_succ (m k : Nat) : le8 m (k + 1) = le8 m k ++ [UInt8.ofNat (m / 256 ^ k % 256)] := by simp [le8, List.range_succ]
theorem le8_at (m k j : Nat) (h : j < (le8 m k).length) : (le8 m k)[j]'h = UInt8.ofNat (m / 256 ^ j % 256) := by simp [le8]
theorem be8_take (m j : Nat) (h : j < 8) : (be8 m).take (j + 1) = (be8 m).take j ++ [UInt8.ofNat (m / 256 ^ (7 - j) % 256)] := by
  have hju : j < (be8 m).length := by rw [be8_len]; exact h
  rw [List.take_succ_eq_append_getElem hju, be8_at]
  have e : (256 : Nat) ^ (7 - j) = 2 ^ (56 - 8 * j) := by rw [show (256 : Nat) = 2 ^ 8 from rfl, ← Nat.pow_mul]; congr 1; omega
  rw [e]
set_option maxRecDepth 100000 in
set_option maxHeartbeats 4000000 in
theorem refpad_ok (n : Nat) (w : World) (hn : n ≤ 1152921504606846976) :
    Calls Try.prog 100 #[.int .i64 n] w fun e w' => ∃ v, e = .returned (.tuple #[v, .int .i64 0]) ∧ w'.ownsRow w.heap.size 5 1 v (padOf n).length (bcells (padOf n)) ∧ Below w.heap.size w w' := by
  obtain ⟨i0, hi, hi0, hi1, hi2⟩ := info_parts infoByte
  have b0 : (0 : Int) ≤ n := by omega
  have b1 : (n : Int) ≤ 1152921504606846976 := by omega
  have HN := Lib.hid hn
  clear hn
  go_enter Try.func100, Try.ntmps100
  go_wp2_with fail
  have hst : (w.alloc (Obj.cells #[Value.int IntKind.u8 128] 5)).ownsRow w.heap.size 5 1 (.slice (some ⟨w.heap.size, 0, none⟩) 1 1) (0 + 1) (bcells (128 :: List.replicate 0 0)) :=
    ⟨rfl, .inr ⟨w.heap.size, 1, _, rfl, Nat.le_refl _, heap_alloc_new _ _, by omega, by unfold maxLen; omega, rfl, rfl⟩⟩
  have HST := Lib.hid hst
  have HBB : Hid (Below w.heap.size w (w.alloc (Obj.cells #[Value.int IntKind.u8 128] 5))) := (Below.refl _ _).alloc (Nat.le_refl _) _
  clear hst
  go_loopw [4] (fun v wr => ∃ (z : Nat) (g cap : Nat), z ≤ zeros n ∧ v = .slice (some ⟨g, 0, none⟩) (z + 1) cap ∧ Hid (wr.ownsRow w.heap.size 5 1 (.slice (some ⟨g, 0, none⟩) (z + 1) cap) (z + 1) (bcells (128 :: List.replicate z 0))) ∧ Hid (Below w.heap.size w wr)) (fun v _ => zeros n + 1 - sliceLen v)
  case atStart => exact ⟨0, _, _, Nat.zero_le _, rfl, HST, HBB⟩
  case round =>
    obtain ⟨z, g, cap, hz, rfl, hO, hB⟩ := hrel
    have hbz := hB.out.size
    have hzb : z ≤ 63 := by unfold zeros at hz; omega
    by_cases hlt : z < zeros n
    · have hne : (((n : Int) % 64 + ((z : Int) + 1)) % 64 != 56) = true := by rw [bne_iff_ne]; unfold zeros at hlt; omega
      have HZL := Lib.hid hlt
      go_wp2_with ((at_builtin; refine wpList_append_own _ rfl _ _ 31 rfl w.heap.size 5 i0 (.int .u8 0) 1 1 Try.underlying31 hi hi0 hi1 hi2 rfl (by decide) _ _ _ rfl (hO.out.alloc _) ⟨wr.heap.size, 0, none⟩ 1 1 [.int .u8 (0)] rfl rfl ?k1 ?k2 ?k3 ?k4 ?k5 ?_))
      case k1 => exact cells_new _ _ _ _ rfl
      case k2 => intro u hu; rw [List.mem_singleton] at hu; subst hu; rfl
      case k3 => unfold maxLen; omega
      case k4 => omega
      case k5 => simp; omega
      intro v' w3 hown3 hgrow _
      have HB3 : Hid (Below w.heap.size w w3) := (hB.out.alloc hbz _).grown hgrow (by simp; omega) (fun b hb => (hO.out.lt b hb).1)
      obtain ⟨g3, cap3, rfl, _, _⟩ := hown3.form (by omega)
      have HO3 : Hid (w3.ownsRow w.heap.size 5 1 (.slice (some ⟨g3, 0, none⟩) (z + 1 + 1) cap3) (z + 1 + 1) (bcells (128 :: List.replicate (z + 1) 0))) := by
        unfold RowKit.Hid
        rw [List.replicate_succ', ← List.cons_append, bcells_append]
        exact hown3
      clear hown3 hgrow hne
      go_wp2_with fail
      go_roundw
      case rel => exact ⟨z + 1, g3, cap3, by omega, rfl, HO3, HB3⟩
      case measure => simp [sliceLen]; omega
    · obtain rfl : z = zeros n := by omega
      have hne : (((n : Int) % 64 + (((zeros n : Nat) : Int) + 1)) % 64 != 56) = false := by rw [bne_eq_false_iff_eq]; unfold zeros; omega
      have HZB := Lib.hid hzb
      clear hlt hz
      generalize hzn : zeros n = zn at *
      have HZN := Lib.hid hzn
      clear hzn
      have hne2 : (((n : Int) + ((zn : Int) + 1)) % 64 != 56) = false := by rw [bne_eq_false_iff_eq] at hne ⊢; omega
      have HNE := Lib.hid hne2
      have HNB := Lib.hid hne
      go_wp2_with fail
      rw [show ((n : Int) % 64 + ((zn : Int) + 1)) % 64 = ((n : Int) + ((zn : Int) + 1)) % 64 by omega]
      first | rw [HNE.out] | skip
      clear hne hne2
      obtain ⟨wL, rfl⟩ : ∃ wL : World, wL = wr := ⟨_, rfl⟩
      have HM : Hid (n * 8 ≤ 9223372036854775808) := by have := HN.out; unfold RowKit.Hid; omega
      rw [show (n : Int) * 8 = ((n * 8 : Nat) : Int) by simp]
      generalize hm8 : n * 8 = m at *
      have HM8 := Lib.hid hm8
      clear hm8
      obtain ⟨gH, hgb, hgl⟩ : ∃ x : Nat, x = g ∧ g < wL.heap.size := ⟨g, rfl, (hO.out.lt g rfl).2⟩
      clear hgb
      go_loopw [5, 6, 7] (fun q l i wq => ∃ k : Nat, k ≤ 8 ∧ i = .int .i64 k ∧ q = .int .u64 ((m / 256 ^ k : Nat) : Int) ∧ Hid (wq.ownsRow wL.heap.size 5 1 l k (bcells (le8 m k))) ∧ Hid (Below wL.heap.size wL wq)) (fun _ _ i _ => 8 - (intOf i).toNat)
      case atStart => exact ⟨0, by omega, rfl, by simp, World.ownsRow_nil _ _ _ _, Below.refl _ _⟩
      case round =>
        obtain ⟨k, hk, rfl, rfl, hOl, hBl⟩ := hrel
        have hblz := hBl.out.size
        by_cases hlt : k < 8
        · have HL := Lib.hid (le8_succ m k)
          have hdv : m / 256 ^ k ≤ m := Nat.div_le_self _ _
          have HS := Lib.hid (show m / 256 ^ (k + 1) = m / 256 ^ k / 256 by rw [Nat.pow_succ, Nat.div_div_eq_div_mul])
          have HM2 := HM.out
          generalize m / 256 ^ k = q at *
          have q0 : (0 : Int) ≤ q := by omega
          have q1 : (q : Int) ≤ 9223372036854775808 := by omega
          have HU : Hid ((q : Int) % 256 = ((UInt8.ofNat (q % 256)).toNat : Int)) := by unfold RowKit.Hid; rw [UInt8.toNat_ofNat']; omega
          clear hdv HM2
          go_wp2_with ((at_builtin; refine wpList_append_own _ rfl _ _ 31 rfl wL.heap.size 5 i0 (.int .u8 0) 1 1 Try.underlying31 hi hi0 hi1 hi2 rfl (by decide) _ _ _ rfl (hOl.out.alloc _) ⟨wr.heap.size, 0, none⟩ 1 1 [.int .u8 ((q : Int) % 256)] rfl rfl ?m1 ?m2 ?m3 ?m4 ?m5 ?_))
          case m1 => exact cells_new _ _ _ _ rfl
          case m2 => intro u hu; rw [List.mem_singleton] at hu; subst hu; rfl
          case m3 => unfold maxLen; omega
          case m4 => omega
          case m5 => simp; omega
          intro v' w3 hown3 hgrow _
          have HB3 : Hid (Below wL.heap.size wL w3) := (hBl.out.alloc hblz _).grown hgrow (by simp; omega) (fun b hb => (hOl.out.lt b hb).1)
          have HO3 : Hid (w3.ownsRow wL.heap.size 5 1 v' (k + 1) (bcells (le8 m (k + 1)))) := by
            unfold RowKit.Hid
            rw [HL.out, bcells_append]
            have e : bcells [UInt8.ofNat (q % 256)] = [Value.int IntKind.u8 ((q : Int) % 256)] := by rw [HU.out]; rfl
            rw [e]; exact hown3
          clear hown3 hgrow
          go_wp2_with fail
          go_roundw
          case rel => exact ⟨k + 1, by omega, by go_num, by rw [HS.out]; go_num, HO3, HB3⟩
          case measure => simp [intOf]; omega
        · obtain rfl : k = 8 := by omega
          obtain ⟨gl, capl, rfl, hgl1, hgl2⟩ := hOl.out.form (by omega)
          have HLB := Lib.hid (BytesAt.of_own (bs := le8 m 8) (show wr.ownsRow _ 5 1 (.slice (some ⟨gl, 0, none⟩) 8 capl) (le8 m 8).length (bcells (le8 m 8)) from (le8_len m 8).symm ▸ hOl.out))
          have HO2 := Lib.hid (own_below hO.out hBl.out)
          have HB2 := Lib.hid (hB.out.trans (hBl.out.mono hbz))
          have HGL := Lib.hid (show gl < wr.heap.size from hgl2)
          have HNE2 := Lib.hid (show g ≠ gl by omega)
          generalize m / 256 ^ 8 = q8 at *
          rw [show ((8 : Nat) : Int) = 8 from rfl]
          obtain ⟨wM, rfl⟩ : ∃ wM : World, wM = wr := ⟨_, rfl⟩
          clear hO hB hOl hBl hk hlt hgl1 hblz
          go_wp2_with fail
          go_loopw [4, 8] (fun v i wq => ∃ (j g3 cap3 : Nat), j ≤ 8 ∧ v = .slice (some ⟨g3, 0, none⟩) (zn + 1 + j) cap3 ∧ i = .int .i64 ((7 : Int) - j) ∧ Hid (wq.ownsRow w.heap.size 5 1 (.slice (some ⟨g3, 0, none⟩) (zn + 1 + j) cap3) (zn + 1 + j) (bcells (128 :: List.replicate zn 0 ++ (be8 m).take j))) ∧ Hid (Below w.heap.size w wq) ∧ Hid (BytesAt wq (some ⟨gl, 0, none⟩) (le8 m 8)) ∧ Hid (g3 ≠ gl ∧ gl < wq.heap.size)) (fun _ i _ => ((intOf i) + 1).toNat)
          case atStart => exact ⟨0, g, cap, by omega, rfl, rfl, by rw [List.take_zero, List.append_nil]; exact HO2, HB2, HLB, ⟨HNE2.out, HGL.out⟩⟩
          case round =>
            obtain ⟨j, g3, cap3, hj, rfl, rfl, hO, hB, hL, hG⟩ := hrel
            have hbz3 := hB.out.size
            by_cases hlt : j < 8
            · have HT := Lib.hid (be8_take m j hlt)
              have hcl : wr.cell? ⟨gl, 7 - j, none⟩ = some (.int .u8 ((UInt8.ofNat (m / 256 ^ (7 - j) % 256)).toNat : Int)) := by
                obtain ⟨b, off, he, hc⟩ := hL.out (7 - j) (by rw [le8_len]; omega)
                simp only [Option.some.injEq, Addr.mk.injEq, and_true] at he
                obtain ⟨rfl, rfl⟩ := he
                rw [le8_at, Nat.zero_add] at hc
                exact hc
              generalize UInt8.ofNat (m / 256 ^ (7 - j) % 256) = u at *
              have hub : (u.toNat : Int) ≤ 255 := by have := u.toNat_lt; omega
              rw [show (7 : Int) - (j : Int) = ((7 - j : Nat) : Int) by omega]
              obtain ⟨t, ht⟩ : ∃ t : Nat, 7 - j = t := ⟨_, rfl⟩
              have HTJ := Lib.hid ht
              rw [ht] at hcl ⊢
              have ht7 : t ≤ 7 := by omega
              clear ht
              go_wp2_with ((at_builtin; refine wpList_append_own_at _ rfl _ _ 31 rfl w.heap.size 5 i0 (.int .u8 0) 1 1 Try.underlying31 hi hi0 hi1 hi2 rfl (by decide) _ _ _ rfl (hO.out.alloc _) ⟨wr.heap.size, 0, none⟩ 1 1 [.int .u8 (u.toNat : Int)] rfl rfl ?n1 ?n2 ?n3 ?n4 ?n5 ?_))
              case n1 => exact cells_new _ _ _ _ rfl
              case n2 => intro u hu; rw [List.mem_singleton] at hu; subst hu; rfl
              case n3 => unfold maxLen; omega
              case n4 => omega
              case n5 => simp; omega
              intro v' w3 hown3 hgrow _ hat
              have HB3 : Hid (Below w.heap.size w w3) := (hB.out.alloc hbz3 _).grown hgrow (by simp; omega) (fun b hb => (hO.out.lt b hb).1)
              obtain ⟨g4, cap4, rfl, _, hg4⟩ := hown3.form (by omega)
              have HL3 : Hid (BytesAt w3 (some ⟨gl, 0, none⟩) (le8 m 8)) := by
                intro k hk
                obtain ⟨b, off, he, hc⟩ := hL.out k hk
                simp only [Option.some.injEq, Addr.mk.injEq, and_true] at he
                obtain ⟨rfl, rfl⟩ := he
                refine ⟨gl, 0, rfl, hgrow.cell (((World.grownBy_alloc _ _ (some g3)).cell hc) (by simp; exact fun e => hG.out.1 e.symm)) (by simp [Value.ownBlock]; exact fun e => hG.out.1 e.symm)⟩
              have HG3 : Hid (g4 ≠ gl ∧ gl < w3.heap.size) := by
                have hsz3 := hgrow.size
                have hGo := hG.out
                simp at hsz3
                refine ⟨?_, by omega⟩
                rcases hat with h | h
                · have e4 : g4 = g3 := by simpa [Value.ownBlock] using h
                  rw [e4]; exact hGo.1
                · have e4 : g4 = wr.heap.size + 1 := by simpa [Value.ownBlock] using h
                  omega
              have HO3 : Hid (w3.ownsRow w.heap.size 5 1 (.slice (some ⟨g4, 0, none⟩) (zn + 1 + (j + 1)) cap4) (zn + 1 + (j + 1)) (bcells (128 :: List.replicate zn 0 ++ (be8 m).take (j + 1)))) := by
                unfold RowKit.Hid
                rw [HT.out, ← List.append_assoc, bcells_append _ [u]]
                exact hown3
              clear hown3 hgrow hat
              go_wp2_with fail
              go_roundw
              case rel => exact ⟨j + 1, g4, cap4, by omega, rfl, by have := HTJ.out; go_num, HO3, HB3, HL3, HG3⟩
              case measure => simp [intOf]
            · obtain rfl : j = 8 := by omega
              have HPE : Hid (padOf n = 128 :: List.replicate zn 0 ++ be8 m) := by unfold RowKit.Hid padOf; rw [HZN.out, HM8.out]
              have hO8 := hO.out
              rw [show (be8 m).take 8 = be8 m from List.take_of_length_le (by rw [be8_len]; exact Nat.le_refl _)] at hO8
              have HO8 : Hid (wr.ownsRow w.heap.size 5 1 (.slice (some ⟨g3, 0, none⟩) (zn + 1 + 8) cap3) (padOf n).length (bcells (padOf n))) := by
                unfold RowKit.Hid
                rw [HPE.out]
                have : (128 :: List.replicate zn 0 ++ be8 m).length = zn + 1 + 8 := by simp [be8_len]
                rw [this]; exact hO8
              rw [show (7 : Int) - ((8 : Nat) : Int) = -1 from rfl]
              clear hO8
              go_wp2_with fail
              go_ret2
              exact ⟨_, rfl, HO8.out, hB.out⟩
end Go.Proofs.Ytjhopgmionpkoaa
