/-
  A code out of bytes: Decode of the package isa and of its reference.
-/
import Derived.Test.YtefnmpococnepaaIsaF
import Derived.Test.YtefnmpococnepaaWords
namespace Go.Proofs.Ytefnmpococnepaa
open Go.RowKit Mem

def insCells : List Ia.Ins → List Value
  | [] => []
  | i :: r => .int .i64 i.op :: .int .i32 i.n :: insCells r
theorem insCells_length : ∀ l : List Ia.Ins, (insCells l).length = l.length * 2
  | [] => rfl
  | _ :: r => by simp only [insCells, List.length_cons, insCells_length r]; omega
theorem insCells_append : ∀ a b : List Ia.Ins, insCells (a ++ b) = insCells a ++ insCells b
  | [], _ => rfl
  | _ :: r, b => by simp only [List.cons_append, insCells, insCells_append r b]
theorem insCells_one : ∀ (l : List Ia.Ins), ∀ v ∈ insCells l, v.oneCell' = true
  | [], v, h => by simp [insCells] at h
  | i :: r, v, h => by
    simp only [insCells, List.mem_cons] at h
    rcases h with rfl | rfl | h
    · rfl
    · rfl
    · exact insCells_one r v h
theorem insCells_at : ∀ (l : List Ia.Ins) (k : Nat) (h : k < l.length), (insCells l)[k * 2]? = some (.int .i64 (l[k]'h).op) ∧ (insCells l)[k * 2 + 1]? = some (.int .i32 (l[k]'h).n)
  | [], k, h => by simp at h
  | i :: r, 0, h => ⟨rfl, rfl⟩
  | i :: r, k + 1, h => by
    have := insCells_at r k (by simpa using h)
    have e1 : (k + 1) * 2 = k * 2 + 1 + 1 := by omega
    rw [e1]
    simpa [insCells] using this
/-- the plain law of the loop -/
def DecInv (bs : Ia.Bs) (done : List Ia.Ins) (p : Nat) : Prop :=
  p ≤ bs.length ∧ done.length ≤ 600 ∧ Ia.decode bs = if (Ia.decL bs.length done.length (bs.drop p)).2.1 ≠ 0 then ([], (Ia.decL bs.length done.length (bs.drop p)).2.1, (Ia.decL bs.length done.length (bs.drop p)).2.2) else (done ++ (Ia.decL bs.length done.length (bs.drop p)).1, 0, 0)
theorem decF_form (N : Nat) : ∀ (f k : Nat) (l : Ia.Bs), if (Ia.decF N f k l).2.1 ≠ 0 then (Ia.decF N f k l).1 = [] else (Ia.decF N f k l).2.2 = 0
  | 0, _, _ => by simp [Ia.decF]
  | f + 1, k, l => by
    unfold Ia.decF
    by_cases h1 : l = []
    · simp [h1]
    · rw [if_neg h1]
      by_cases h2 : k = 600
      · simp [h2]
      · rw [if_neg h2]
        simp only
        by_cases h3 : (Ia.readB l).2.2 ≠ 0
        · simp [h3]
        · rw [if_neg h3]
          by_cases h4 : (Ia.decF N f (k + 1) (l.drop (Ia.readB l).2.1)).2.1 ≠ 0
          · rw [if_pos h4]; simp [h4]
          · rw [if_neg h4]; simp
theorem DecInv.start (bs : Ia.Bs) : DecInv bs [] 0 := by
  refine ⟨Nat.zero_le _, by simp, ?_⟩
  rw [List.drop_zero]
  show Ia.decF bs.length (bs.length + 1) 0 bs = _
  have h := decF_form bs.length (bs.length + 1) 0 bs
  unfold Ia.decL
  rw [List.length_nil]
  generalize Ia.decF bs.length (bs.length + 1) 0 bs = r at *
  obtain ⟨a, b, c⟩ := r
  simp only at h ⊢
  by_cases hb : b ≠ 0
  · rw [if_pos hb] at h ⊢; rw [h]
  · rw [if_neg hb] at h ⊢
    have : b = 0 := by omega
    subst this h
    simp
theorem DecInv.done {bs : Ia.Bs} {done : List Ia.Ins} (h : DecInv bs done bs.length) : Ia.decode bs = (done, 0, 0) := by
  rw [h.2.2, List.drop_length, Ia.decL_nil]
  simp
theorem drop_ne {bs : Ia.Bs} {p : Nat} (hp : p < bs.length) : bs.drop p ≠ [] := by
  intro h
  have := congrArg List.length h
  rw [List.length_drop] at this
  simp at this
  omega
theorem DecInv.big {bs : Ia.Bs} {done : List Ia.Ins} {p : Nat} (h : DecInv bs done p) (hp : p < bs.length) (hd : done.length = 600) : Ia.decode bs = ([], 3, (p : Int)) := by
  rw [h.2.2, hd, Ia.decL_big _ (drop_ne hp), List.length_drop]
  simp
  omega
theorem DecInv.bad {bs : Ia.Bs} {done : List Ia.Ins} {p : Nat} (h : DecInv bs done p) (hp : p < bs.length) (hd : done.length ≠ 600) (he : (Ia.readB (bs.drop p)).2.2 ≠ 0) : Ia.decode bs = ([], (Ia.readB (bs.drop p)).2.2, (p : Int)) := by
  rw [h.2.2, Ia.decL_bad _ (drop_ne hp) hd he, List.length_drop]
  rw [if_pos he]
  dsimp only
  rw [show (bs.length : Int) - ((bs.length - p : Nat) : Int) = p by omega]
theorem DecInv.step {bs : Ia.Bs} {done : List Ia.Ins} {p : Nat} (h : DecInv bs done p) (hp : p < bs.length) (hd : done.length ≠ 600) (he : (Ia.readB (bs.drop p)).2.2 = 0) :
    DecInv bs (done ++ [(Ia.readB (bs.drop p)).1]) (p + (Ia.readB (bs.drop p)).2.1) ∧ 0 < (Ia.readB (bs.drop p)).2.1 := by
  have hl := Ia.readB_len he
  rw [List.length_drop] at hl
  refine ⟨⟨by omega, by have := h.2.1; simp; omega, ?_⟩, hl.1⟩
  rw [h.2.2, Ia.decL_good _ (drop_ne hp) hd he, List.drop_drop, List.length_append, List.length_singleton]
  generalize Ia.decL bs.length (done.length + 1) (bs.drop (p + (Ia.readB (bs.drop p)).2.1)) = r
  by_cases hr : r.2.1 ≠ 0
  · rw [if_pos hr, if_pos hr, if_pos hr]
  · rw [if_neg hr, if_neg hr]; simp
theorem infoIns : (Try.prog.info? 25).map (fun i => (i.zero, i.size, i.bytes)) = some (some (.agg #[.int .i64 0, .int .i32 0]), 2, 16) := by kernel_rfl
theorem readAt_bad {bs : Ia.Bs} {p : Nat} (hp : p < bs.length) (he : (Ia.readB (bs.drop p)).2.2 ≠ 0) : readAt bs p = (Ia.nil, 0, (Ia.readB (bs.drop p)).2.2) := by
  unfold readAt
  rw [if_neg (by omega), Int.toNat_natCast, if_pos he]
theorem readAt_good {bs : Ia.Bs} {p : Nat} (hp : p < bs.length) (he : (Ia.readB (bs.drop p)).2.2 = 0) : readAt bs p = ((Ia.readB (bs.drop p)).1, ((p + (Ia.readB (bs.drop p)).2.1 : Nat) : Int), 0) := by
  unfold readAt
  rw [if_neg (by omega), Int.toNat_natCast, if_neg (by omega)]
  simp
set_option maxHeartbeats 4000000 in
theorem isadecode (bs : List UInt8) (A : Option Addr) (c : Nat) (w : World) (hA : BytesAt w A bs) (hn : bs.length ≤ 140737488351232) :
    Calls Try.prog 15 #[.slice A bs.length c] w fun e w' => ∃ v, e = .returned (.tuple #[v, .int .i64 (Ia.decode bs).2.1, .int .i64 (Ia.decode bs).2.2]) ∧ w'.ownsRow w.heap.size 25 2 v (Ia.decode bs).1.length (insCells (Ia.decode bs).1) ∧ Below w.heap.size w w' := by
  have HA := Lib.hid hA
  clear hA
  obtain ⟨i0, hi, hi0, hi1, hi2⟩ := info_parts infoIns
  go_enter Try.func15, Try.ntmps15
  go_wp2_with fail
  go_loopw [5, 6] (fun v i wr => ∃ (p : Nat) (done : List Ia.Ins), i = .int .i64 p ∧ Hid (DecInv bs done p) ∧ p ≤ bs.length ∧ done.length ≤ 600 ∧ Hid (wr.ownsRow w.heap.size 25 2 v done.length (insCells done)) ∧ Hid (Below w.heap.size w wr)) (fun _ i _ => bs.length - (intOf i).toNat)
  case atStart => exact ⟨0, [], rfl, DecInv.start bs, Nat.zero_le _, by simp, World.ownsRow_nil _ _ _ _, Below.refl _ _⟩
  case round =>
    obtain ⟨p, done, rfl, hI, hp, hd, hO, hB⟩ := hrel
    rcases own_slice hO.out with ⟨A2, c2, rfl⟩
    by_cases hlt : p < bs.length
    · by_cases h600 : done.length = 600
      · have hf := hI.out.big hlt h600
        have HF := Lib.hid hf
        have hb : ((done.length : Int) == 600) = true := by rw [beq_iff_eq]; omega
        clear hf h600
        go_wp2_with fail
        go_ret3
        rw [HF.out]
        exact ⟨_, rfl, World.ownsRow_nil _ _ _ _, hB.out⟩
      · have hb : ((done.length : Int) == 600) = false := by rw [beq_eq_false_iff_ne]; omega
        have HR := fun W (h : BytesAt W A bs) => isaread bs A c p W h (by omega) (by omega) (by omega)
        have HR := Lib.hid HR
        by_cases he : (Ia.readB (bs.drop p)).2.2 = 0
        · obtain ⟨hI2, hpos⟩ := hI.out.step hlt h600 he
          have hpl := hI2.1
          rw [readAt_good hlt he] at HR
          clear he h600
          have HI2 := Lib.hid hI2
          clear hI2
          generalize (Ia.readB (bs.drop p)).1 = ins at *
          generalize (Ia.readB (bs.drop p)).2.1 = nn at *
          unfold insAgg at HR
          dsimp only at HR
          go_wp2_with fail
          refine (HR.out _ (HA.out.below hB.out (Nat.le_refl _))).mono ?_
          rintro e w1 ⟨rfl, hb1⟩
          have HB1 := Lib.hid (hB.out.trans (hb1.mono hB.out.size))
          have HO1 := Lib.hid (own_below hO.out hb1)
          have hz1 := HB1.out.size
          clear hb1
          go_wp2_with (at_builtin; refine wpList_append_own _ rfl (.tmp 29) (.tmp 31) 32 rfl w.heap.size 25 i0 (.agg #[.int .i64 0, .int .i32 0]) 2 16 Try.underlying32 hi hi0 hi1 hi2 rfl (by decide) (.slice A2 done.length c2) done.length (insCells done) rfl ((HO1.out.alloc _).alloc _) ⟨w1.heap.size + 1, 0, none⟩ 1 1 [.int .i64 ins.op, .int .i32 ins.n] rfl rfl ?c1 ?c2 ?c3 ?c4 ?c5 ?_)
          case c1 => exact cells_new _ _ _ _ (by simp)
          case c2 => intro u hu; simp only [List.mem_cons, List.not_mem_nil, or_false] at hu; rcases hu with rfl | rfl <;> rfl
          case c3 => unfold maxLen; omega
          case c4 => omega
          case c5 => simp; omega
          intro v2 w2 hown2 hg2 _
          have HB2 : Hid (Below w.heap.size w w2) := ((HB1.out.alloc hz1 _).alloc (by simp; omega) _).grown hg2 (by simp; omega) (fun b hb => (HO1.out.lt b hb).1)
          have hown3 : w2.ownsRow w.heap.size 25 2 v2 (done ++ [ins]).length (insCells (done ++ [ins])) := by
            rw [insCells_append, List.length_append]; exact hown2
          have HO3 := Lib.hid hown3
          clear hown2 hg2 hown3
          go_wp2_with fail
          go_roundw
          case rel => exact ⟨p + nn, done ++ [ins], by first | rfl | go_num, HI2, hpl, HI2.out.2.1, HO3, HB2⟩
          case measure => simp [intOf]; omega
        · have hf := hI.out.bad hlt h600 he
          rw [readAt_bad hlt he] at HR
          have hne : ((Ia.readB (bs.drop p)).2.2 != 0) = true := by rw [bne_iff_ne]; exact he
          clear he h600
          generalize (Ia.readB (bs.drop p)).2.2 = er at *
          have HF := Lib.hid hf
          clear hf
          unfold insAgg at HR
          dsimp only [Ia.nil] at HR
          go_wp2_with fail
          refine (HR.out _ (HA.out.below hB.out (Nat.le_refl _))).mono ?_
          rintro e w1 ⟨rfl, hb1⟩
          have HB1 := Lib.hid (hB.out.trans (hb1.mono hB.out.size))
          clear hb1
          go_wp2_with fail
          go_ret3
          rw [HF.out]
          exact ⟨_, rfl, World.ownsRow_nil _ _ _ _, HB1.out.alloc HB1.out.size _⟩
    · obtain rfl : p = bs.length := by omega
      have hf := hI.out.done
      have HF := Lib.hid hf
      clear hf
      go_wp2_with fail
      go_ret3
      rw [HF.out]
      exact ⟨_, rfl, hO.out, hB.out⟩
set_option maxHeartbeats 4000000 in
theorem refdecode (bs : List UInt8) (A : Option Addr) (c : Nat) (w : World) (hA : BytesAt w A bs) (hn : bs.length ≤ 140737488351232) :
    Calls Try.prog 16 #[.slice A bs.length c] w fun e w' => ∃ v, e = .returned (.tuple #[v, .int .i64 (Ia.decode bs).2.1, .int .i64 (Ia.decode bs).2.2]) ∧ w'.ownsRow w.heap.size 25 2 v (Ia.decode bs).1.length (insCells (Ia.decode bs).1) ∧ Below w.heap.size w w' := by
  have HA := Lib.hid hA
  clear hA
  obtain ⟨i0, hi, hi0, hi1, hi2⟩ := info_parts infoIns
  go_enter Try.func16, Try.ntmps16
  go_wp2_with fail
  go_loopw [5, 6] (fun v i wr => ∃ (p : Nat) (done : List Ia.Ins), i = .int .i64 p ∧ Hid (DecInv bs done p) ∧ p ≤ bs.length ∧ done.length ≤ 600 ∧ Hid (wr.ownsRow w.heap.size 25 2 v done.length (insCells done)) ∧ Hid (Below w.heap.size w wr)) (fun _ i _ => bs.length - (intOf i).toNat)
  case atStart => exact ⟨0, [], rfl, DecInv.start bs, Nat.zero_le _, by simp, World.ownsRow_nil _ _ _ _, Below.refl _ _⟩
  case round =>
    obtain ⟨p, done, rfl, hI, hp, hd, hO, hB⟩ := hrel
    rcases own_slice hO.out with ⟨A2, c2, rfl⟩
    by_cases hlt : p < bs.length
    · by_cases h600 : done.length = 600
      · have hf := hI.out.big hlt h600
        have HF := Lib.hid hf
        have hb : ((done.length : Int) == 600) = true := by rw [beq_iff_eq]; omega
        clear hf h600
        go_wp2_with fail
        go_ret3
        rw [HF.out]
        exact ⟨_, rfl, World.ownsRow_nil _ _ _ _, hB.out⟩
      · have hb : ((done.length : Int) == 600) = false := by rw [beq_eq_false_iff_ne]; omega
        have HR := fun W (h : BytesAt W A bs) => refread bs A c p W h (by omega) (by omega) (by omega)
        have HR := Lib.hid HR
        by_cases he : (Ia.readB (bs.drop p)).2.2 = 0
        · obtain ⟨hI2, hpos⟩ := hI.out.step hlt h600 he
          have hpl := hI2.1
          rw [readAt_good hlt he] at HR
          clear he h600
          have HI2 := Lib.hid hI2
          clear hI2
          generalize (Ia.readB (bs.drop p)).1 = ins at *
          generalize (Ia.readB (bs.drop p)).2.1 = nn at *
          unfold insAgg at HR
          dsimp only at HR
          go_wp2_with fail
          refine (HR.out _ (HA.out.below hB.out (Nat.le_refl _))).mono ?_
          rintro e w1 ⟨rfl, hb1⟩
          have HB1 := Lib.hid (hB.out.trans (hb1.mono hB.out.size))
          have HO1 := Lib.hid (own_below hO.out hb1)
          have hz1 := HB1.out.size
          clear hb1
          go_wp2_with (at_builtin; refine wpList_append_own _ rfl (.tmp 29) (.tmp 31) 32 rfl w.heap.size 25 i0 (.agg #[.int .i64 0, .int .i32 0]) 2 16 Try.underlying32 hi hi0 hi1 hi2 rfl (by decide) (.slice A2 done.length c2) done.length (insCells done) rfl ((HO1.out.alloc _).alloc _) ⟨w1.heap.size + 1, 0, none⟩ 1 1 [.int .i64 ins.op, .int .i32 ins.n] rfl rfl ?c1 ?c2 ?c3 ?c4 ?c5 ?_)
          case c1 => exact cells_new _ _ _ _ (by simp)
          case c2 => intro u hu; simp only [List.mem_cons, List.not_mem_nil, or_false] at hu; rcases hu with rfl | rfl <;> rfl
          case c3 => unfold maxLen; omega
          case c4 => omega
          case c5 => simp; omega
          intro v2 w2 hown2 hg2 _
          have HB2 : Hid (Below w.heap.size w w2) := ((HB1.out.alloc hz1 _).alloc (by simp; omega) _).grown hg2 (by simp; omega) (fun b hb => (HO1.out.lt b hb).1)
          have hown3 : w2.ownsRow w.heap.size 25 2 v2 (done ++ [ins]).length (insCells (done ++ [ins])) := by
            rw [insCells_append, List.length_append]; exact hown2
          have HO3 := Lib.hid hown3
          clear hown2 hg2 hown3
          go_wp2_with fail
          go_roundw
          case rel => exact ⟨p + nn, done ++ [ins], by first | rfl | go_num, HI2, hpl, HI2.out.2.1, HO3, HB2⟩
          case measure => simp [intOf]; omega
        · have hf := hI.out.bad hlt h600 he
          rw [readAt_bad hlt he] at HR
          have hne : ((Ia.readB (bs.drop p)).2.2 != 0) = true := by rw [bne_iff_ne]; exact he
          clear he h600
          generalize (Ia.readB (bs.drop p)).2.2 = er at *
          have HF := Lib.hid hf
          clear hf
          unfold insAgg at HR
          dsimp only [Ia.nil] at HR
          go_wp2_with fail
          refine (HR.out _ (HA.out.below hB.out (Nat.le_refl _))).mono ?_
          rintro e w1 ⟨rfl, hb1⟩
          have HB1 := Lib.hid (hB.out.trans (hb1.mono hB.out.size))
          clear hb1
          go_wp2_with fail
          go_ret3
          rw [HF.out]
          exact ⟨_, rfl, World.ownsRow_nil _ _ _ _, HB1.out.alloc HB1.out.size _⟩
    · obtain rfl : p = bs.length := by omega
      have hf := hI.out.done
      have HF := Lib.hid hf
      clear hf
      go_wp2_with fail
      go_ret3
      rw [HF.out]
      exact ⟨_, rfl, hO.out, hB.out⟩
end Go.Proofs.Ytefnmpococnepaa
