/-
  The function pass of the package lex: what is left behind blanks and remarks.
-/
import Derived.Test.YtjgklpjmbogimaaLexC
namespace Go.Proofs.Ytjgklpjmbogimaa
open Go.RowKit
attribute [local go_sem] ex_take ex_drop

def strLen : Value → Nat | .string s => s.size | _ => 0
theorem drop_hd (p : Int → Bool) (l : List UInt8) : l.drop (Lx.hd p l).length = l.dropWhile (Lx.bp p) := by
  have h : Lx.hd p l ++ l.dropWhile (Lx.bp p) = l := List.takeWhile_append_dropWhile
  have e : (Lx.hd p l ++ l.dropWhile (Lx.bp p)).drop (Lx.hd p l).length = l.dropWhile (Lx.bp p) := List.drop_left
  rw [h] at e
  exact e
theorem hd_le (p : Int → Bool) (l : List UInt8) : (Lx.hd p l).length ≤ l.length := (List.takeWhile_sublist _).length_le
set_option maxHeartbeats 1000000 in
theorem lexpass (l : List UInt8) (hl : l.length ≤ maxLen) (w : World) :
    Calls Try.prog 25 #[.string ⟨l.toArray⟩] w fun e w' => e = .returned (.string ⟨(Lx.pass l).toArray⟩) ∧ Below w.heap.size w w' := by
  unfold maxLen at hl
  go_enter Try.func25, Try.ntmps25
  go_wp2_with fail
  go_loopw [0] (fun v w' => ∃ m : List UInt8, v = .string ⟨m.toArray⟩ ∧ m.length ≤ l.length ∧ Hid (Lx.pass m = Lx.pass l) ∧ Below w.heap.size w w') (fun v _ => strLen v)
  case atStart => exact ⟨l, rfl, Nat.le_refl _, rfl, Below.refl _ _⟩
  case round =>
    obtain ⟨m, rfl, hm, hp, hb⟩ := hrel
    have hm' : m.length ≤ 9223372036854775807 := by omega
    have hk : (Lx.hd Lx.blank m).length ≤ m.length := hd_le _ _
    have hx := drop_hd Lx.blank m
    have hpe := Lib.hid (Lx.pass_eq m)
    have hdl := Lx.dropWhile_len (Lx.bp Lx.blank) m
    generalize m.dropWhile (Lx.bp Lx.blank) = n at *
    by_cases h2 : 2 ≤ n.length
    · by_cases h3 : n.take 2 = [45, 45]
      · have h4 : (n.take 2 == [45, 45]) = true := by rw [beq_iff_eq]; exact h3
        have hlt := Lib.hid (Lx.other_drop h3)
        have H3 := Lib.hid h3
        clear h3
        have hk2 : (Lx.hd Lx.other n).length ≤ n.length := hd_le _ _
        have hx2 := drop_hd Lx.other n
        generalize n.dropWhile (Lx.bp Lx.other) = o at *
        go_wp2_with fail
        refine (head_blank m (by unfold maxLen; omega) _).mono ?_
        rintro e w1 ⟨rfl, hb1⟩
        go_wp2_with fail
        refine (head_other n (by unfold maxLen; omega) _).mono ?_
        rintro e w2 ⟨rfl, hb2⟩
        go_wp2_with fail
        go_roundw
        case rel =>
          have hb12 : Below w.heap.size w w2 := (hb.trans (hb1.mono hb.size)).trans (hb2.mono (Nat.le_trans hb.size hb1.size))
          refine ⟨o, rfl, by have := hlt.out; omega, ?_, hb12⟩
          have h5 := hpe.out
          rw [if_pos H3.out] at h5
          exact h5.symm.trans hp.out
        case measure =>
          have := hlt.out
          simp [strLen, ByteArray.size]
          omega
      · have h4 : (n.take 2 == [45, 45]) = false := by rw [beq_eq_false_iff_ne]; exact h3
        have H3 := Lib.hid h3
        clear h3
        go_wp2_with fail
        refine (head_blank m (by unfold maxLen; omega) _).mono ?_
        rintro e w1 ⟨rfl, hb1⟩
        go_wp2_with fail
        go_ret
        refine ⟨?_, hb.trans (hb1.mono hb.size)⟩
        have h5 := hpe.out
        rw [if_neg H3.out] at h5
        rw [← hp.out, h5]
        rfl
    · go_wp2_with fail
      refine (head_blank m (by unfold maxLen; omega) _).mono ?_
      rintro e w1 ⟨rfl, hb1⟩
      go_wp2_with fail
      go_ret
      refine ⟨?_, hb.trans (hb1.mono hb.size)⟩
      have h5 := hpe.out
      have h6 : n.take 2 ≠ [45, 45] := fun e => by
        have := congrArg List.length e
        rw [List.length_take] at this
        simp at this
        omega
      rw [if_neg h6] at h5
      rw [← hp.out, h5]
      rfl
end Go.Proofs.Ytjgklpjmbogimaa
