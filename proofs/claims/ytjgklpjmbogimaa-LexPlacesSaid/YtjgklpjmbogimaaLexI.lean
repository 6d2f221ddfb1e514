/-
  The functions Name of the package lex, and Word, Mark, Name of its reference.
-/
import Derived.Test.YtjgklpjmbogimaaLexH
namespace Go.Proofs.Ytjgklpjmbogimaa
open Go.RowKit
attribute [local go_sem] ex_take ex_drop ba_get

set_option maxHeartbeats 2000000 in
theorem lexname (l : List UInt8) (hl : l.length ≤ maxLen) (w : World) :
    Calls Try.prog 10 #[.string ⟨l.toArray⟩] w fun e w' => e = .returned (.bool (Lx.isName l)) ∧ Below w.heap.size w w' := by
  have HL := Lib.hid hl
  unfold maxLen at hl
  by_cases h0 : l = []
  · subst h0
    go_enter Try.func10, Try.ntmps10
    go_wp2_with fail
    go_ret
    exact ⟨rfl, Below.refl _ _⟩
  · have hp : 0 < l.length := List.length_pos_iff.2 h0
    have hne : (!l.isEmpty) = true := by simpa using h0
    have hh := headD_at hp
    have hcb : ((l[0]'hp).toNat : Int) ≤ 255 := by have := (l[0]'hp).toNat_lt; omega
    by_cases h16 : 16 < l.length
    · have hN : Lx.isName l = false := by unfold Lx.isName; simp; omega
      rw [hN]
      clear h0 hh hcb
      go_enter Try.func10, Try.ntmps10
      go_wp2_with fail
      go_ret
      exact ⟨rfl, Below.refl _ _⟩
    · have hN : Lx.isName l = (Lx.letter ((l[0]'hp).toNat : Int) && (Lx.hd Lx.inner l == l) && !Lx.isWord l) := by
        unfold Lx.isName
        rw [hh]
        have e1 : decide (0 < l.length) = true := by simpa using hp
        have e2 : decide (l.length ≤ 16) = true := by simp; omega
        rw [e1, e2]; rfl
      rw [hN]
      clear hN h0 hh
      rcases h1 : Lx.letter ((l[0]'hp).toNat : Int) with _ | _
      · have H1 := Lib.hid h1
        clear h1
        go_enter Try.func10, Try.ntmps10
        go_wp2_with fail
        refine (lexletter_any _ _).mono ?_
        rintro e w' ⟨rfl, rfl⟩
        rw [H1.out]
        go_wp2_with fail
        go_ret
        exact ⟨rfl, Below.refl _ _⟩
      · have H1 := Lib.hid h1
        clear h1
        rcases h2 : (Lx.hd Lx.inner l == l) with _ | _
        · go_enter Try.func10, Try.ntmps10
          go_wp2_with fail
          refine (lexletter_any _ _).mono ?_
          rintro e w' ⟨rfl, rfl⟩
          rw [H1.out]
          go_wp2_with fail
          refine (head_inner l HL.out _).mono ?_
          rintro e w1 ⟨rfl, hb1⟩
          go_wp2_with fail
          go_ret
          exact ⟨rfl, hb1⟩
        · go_enter Try.func10, Try.ntmps10
          go_wp2_with fail
          refine (lexletter_any _ _).mono ?_
          rintro e w' ⟨rfl, rfl⟩
          rw [H1.out]
          go_wp2_with fail
          refine (head_inner l HL.out _).mono ?_
          rintro e w1 ⟨rfl, hb1⟩
          go_wp2_with fail
          refine (lexword l _).mono ?_
          rintro e w' ⟨rfl, rfl⟩
          go_wp2_with fail
          go_ret
          exact ⟨by simp, hb1⟩
theorem contains_upto {xs : List (List UInt8)} {l : List UInt8} (h : ∀ j (hj : j < xs.length), (xs[j] == l) = false) : xs.contains l = false := by
  rw [← Bool.not_eq_true, List.contains_iff_mem]
  intro hm
  obtain ⟨j, hj, rfl⟩ := List.getElem_of_mem hm
  have := h j hj
  simp at this
theorem contains_at {xs : List (List UInt8)} {l : List UInt8} {j : Nat} (hj : j < xs.length) (h : (xs[j] == l) = true) : xs.contains l = true := by
  rw [beq_iff_eq] at h
  rw [List.contains_iff_mem, ← h]
  exact List.getElem_mem _
set_option maxHeartbeats 2000000 in
theorem refamong (xs : List (List UInt8)) (g : Nat) (l : List UInt8) (w : World) (hn : xs.length ≤ maxLen) (hc : ∀ k (h : k < xs.length), w.cell? ⟨g, k, none⟩ = some (.string ⟨(xs[k]'h).toArray⟩)) :
    Calls Try.prog 22 #[.slice (some ⟨g, 0, none⟩) xs.length xs.length, .string ⟨l.toArray⟩] w fun e w' => e = .returned (.bool (xs.contains l)) ∧ w = w' := by
  unfold maxLen at hn
  have HC := Lib.hid hc
  clear hc
  rcases hq : xs.contains l with _ | _
  · have HQ := Lib.hid hq
    clear hq
    go_enter Try.func22, Try.ntmps22
    go_wp2
    go_loop [5] (fun i => ∃ k : Nat, k ≤ xs.length ∧ i = .int .i64 k) (fun i => xs.length - (intOf i).toNat)
    case atStart => exact ⟨0, Nat.zero_le _, rfl⟩
    case round =>
      obtain ⟨k, hk, rfl⟩ := hrel
      by_cases hlt : k < xs.length
      · have hcell := HC.out k hlt
        have hne : ((xs[k]'hlt) == l) = false := by
          rcases h : ((xs[k]'hlt) == l) with _ | _
          · rfl
          · have := contains_at hlt h; rw [HQ.out] at this; cases this
        go_wp2
        go_round
        case rel => exact ⟨k + 1, by omega, by go_num⟩
        case measure => simp [intOf]; omega
      · go_wp2
        go_ret
        exact ⟨rfl, rfl⟩
  · have HQ := Lib.hid hq
    clear hq
    go_enter Try.func22, Try.ntmps22
    go_wp2
    go_loop [5] (fun i => ∃ k : Nat, k ≤ xs.length ∧ i = .int .i64 k ∧ Hid (∀ j (hj : j < xs.length), j < k → ((xs[j]'hj) == l) = false)) (fun i => xs.length - (intOf i).toNat)
    case atStart => exact ⟨0, Nat.zero_le _, rfl, fun j hj h => absurd h (Nat.not_lt_zero _)⟩
    case round =>
      obtain ⟨k, hk, rfl, hall⟩ := hrel
      by_cases hlt : k < xs.length
      · have hcell := HC.out k hlt
        rcases h : ((xs[k]'hlt) == l) with _ | _
        · go_wp2
          go_round
          case rel =>
            refine ⟨k + 1, by omega, by go_num, fun j hj hjk => ?_⟩
            rcases Nat.lt_or_ge j k with h1 | h1
            · exact hall.out j hj h1
            · obtain rfl : j = k := by omega
              exact h
          case measure => simp [intOf]; omega
        · go_wp2
          go_ret
          exact ⟨rfl, rfl⟩
      · exfalso
        have := contains_upto (xs := xs) (l := l) (fun j hj => hall.out j hj (by omega))
        rw [HQ.out] at this
        cases this
theorem cells_strs (xs : List (List UInt8)) (W : World) (t : TypeId) (cs : Array Value) (h : cs = (xs.map (fun x => Value.string ⟨x.toArray⟩)).toArray) :
    ∀ k (hk : k < xs.length), (W.alloc (.cells cs t)).cell? ⟨W.heap.size, k, none⟩ = some (.string ⟨(xs[k]'hk).toArray⟩) := by
  intro k hk
  rw [cell_of_row _ W.heap.size k cs t (0, 0) (heap_alloc_new W _), h]
  simp [hk]
theorem refamong_word (g : Nat) (l : List UInt8) (w : World) (hc : ∀ k (h : k < Lx.words.length), w.cell? ⟨g, k, none⟩ = some (.string ⟨(Lx.words[k]'h).toArray⟩)) :
    Calls Try.prog 22 #[.slice (some ⟨g, 0, none⟩) 18 18, .string ⟨l.toArray⟩] w fun e w' => e = .returned (.bool (Lx.isWord l)) ∧ w = w' :=
  refamong Lx.words g l w (by decide) hc
theorem refamong_mark (g : Nat) (l : List UInt8) (w : World) (hc : ∀ k (h : k < Lx.marks.length), w.cell? ⟨g, k, none⟩ = some (.string ⟨(Lx.marks[k]'h).toArray⟩)) :
    Calls Try.prog 22 #[.slice (some ⟨g, 0, none⟩) 22 22, .string ⟨l.toArray⟩] w fun e w' => e = .returned (.bool (Lx.isMark l)) ∧ w = w' :=
  refamong Lx.marks g l w (by decide) hc
set_option maxHeartbeats 2000000 in
theorem refword (l : List UInt8) (w : World) :
    Calls Try.prog 12 #[.string ⟨l.toArray⟩] w fun e w' => e = .returned (.bool (Lx.isWord l)) ∧ Below w.heap.size w w' := by
  go_enter Try.func12, Try.ntmps12
  go_wp2_with fail
  refine (refamong_word _ l _ (cells_strs Lx.words _ _ _ rfl)).mono ?_
  rintro e w' ⟨rfl, rfl⟩
  go_wp2_with fail
  go_ret
  exact ⟨rfl, (Below.refl _ _).alloc (Nat.le_refl _) _⟩
set_option maxHeartbeats 2000000 in
theorem refmark (l : List UInt8) (w : World) :
    Calls Try.prog 14 #[.string ⟨l.toArray⟩] w fun e w' => e = .returned (.bool (Lx.isMark l)) ∧ Below w.heap.size w w' := by
  go_enter Try.func14, Try.ntmps14
  go_wp2_with fail
  refine (refamong_mark _ l _ (cells_strs Lx.marks _ _ _ rfl)).mono ?_
  rintro e w' ⟨rfl, rfl⟩
  go_wp2_with fail
  go_ret
  exact ⟨rfl, (Below.refl _ _).alloc (Nat.le_refl _) _⟩
/-- up to k each byte is an inner one -/
def InnerTo (l : List UInt8) (k : Nat) : Prop := ∀ j (hj : j < l.length), j < k → Lx.bp Lx.inner (l[j]'hj) = true
theorem hd_len {l : List UInt8} {k : Nat} (h : InnerTo l k) (he : k = l.length ∨ ∃ hk : k < l.length, Lx.bp Lx.inner (l[k]'hk) = false) : (Lx.hd Lx.inner l).length = k := by
  unfold Lx.hd
  rw [takeWhile_at _ _ _ h he, List.length_take]
  rcases he with rfl | ⟨hk, _⟩ <;> omega
theorem inner_eq (c : Int) : Lx.inner c = (Lx.letter c || Lx.digit c || c == 95) := rfl
theorem innerTo_succ {l : List UInt8} {k : Nat} (h : InnerTo l k) (hk : k < l.length) (hi : Lx.bp Lx.inner (l[k]'hk) = true) : InnerTo l (k + 1) := fun j hj hlt => by
  rcases Nat.lt_or_ge j k with h1 | h1
  · exact h j hj h1
  · obtain rfl : j = k := by omega
    exact hi
set_option maxHeartbeats 4000000 in
theorem refrun (l : List UInt8) (hl : l.length ≤ maxLen) (w : World) :
    Calls Try.prog 24 #[.string ⟨l.toArray⟩, .int .i64 0, .int .i64 0] w fun e w' => e = .returned (.int .i64 (Lx.hd Lx.inner l).length) ∧ w = w' := by
  unfold maxLen at hl
  go_enter Try.func24, Try.ntmps24
  go_wp2
  go_loop [7] (fun i => ∃ k : Nat, k ≤ l.length ∧ i = .int .i64 k ∧ Hid (InnerTo l k)) (fun i => l.length - (intOf i).toNat)
  case atStart => exact ⟨0, Nat.zero_le _, rfl, fun j hj h => absurd h (Nat.not_lt_zero _)⟩
  case round =>
    obtain ⟨k, hk, rfl, hu⟩ := hrel
    by_cases hlt : k < l.length
    · have hcb : ((l[k]'hlt).toNat : Int) ≤ 255 := by have := (l[k]'hlt).toNat_lt; omega
      rcases h1 : Lx.digit ((l[k]'hlt).toNat : Int) with _ | _
      · have H1 := Lib.hid h1
        clear h1
        rcases h2 : Lx.letter ((l[k]'hlt).toNat : Int) with _ | _
        · have H2 := Lib.hid h2
          clear h2
          rcases h3 : (((l[k]'hlt).toNat : Int) != 95) with _ | _
          · go_wp2_with fail
            refine (refdigit_any _ _).mono ?_
            rintro e w' ⟨rfl, rfl⟩
            rw [H1.out]
            go_wp2_with fail
            refine (refletter_any _ _).mono ?_
            rintro e w' ⟨rfl, rfl⟩
            rw [H2.out]
            go_wp2_with fail
            go_round
            case rel =>
              refine ⟨k + 1, by omega, by go_num, innerTo_succ hu.out hlt ?_⟩
              have : (((l[k]'hlt).toNat : Int) == 95) = true := by simpa using h3
              show Lx.inner _ = true
              rw [inner_eq, H1.out, H2.out, this]; rfl
            case measure => simp [intOf]; omega
          · go_wp2_with fail
            refine (refdigit_any _ _).mono ?_
            rintro e w' ⟨rfl, rfl⟩
            rw [H1.out]
            go_wp2_with fail
            refine (refletter_any _ _).mono ?_
            rintro e w' ⟨rfl, rfl⟩
            rw [H2.out]
            go_wp2_with fail
            go_ret
            have hin : Lx.bp Lx.inner (l[k]'hlt) = false := by
              have : (((l[k]'hlt).toNat : Int) == 95) = false := by simpa using h3
              show Lx.inner _ = false
              rw [inner_eq, H1.out, H2.out, this]; rfl
            rw [hd_len hu.out (.inr ⟨hlt, hin⟩)]
            exact ⟨rfl, rfl⟩
        · have H2 := Lib.hid h2
          clear h2
          go_wp2_with fail
          refine (refdigit_any _ _).mono ?_
          rintro e w' ⟨rfl, rfl⟩
          rw [H1.out]
          go_wp2_with fail
          refine (refletter_any _ _).mono ?_
          rintro e w' ⟨rfl, rfl⟩
          rw [H2.out]
          go_wp2_with fail
          go_round
          case rel =>
            refine ⟨k + 1, by omega, by go_num, innerTo_succ hu.out hlt ?_⟩
            show Lx.inner _ = true
            rw [inner_eq, H2.out]; rfl
          case measure => simp [intOf]; omega
      · have H1 := Lib.hid h1
        clear h1
        go_wp2_with fail
        refine (refdigit_any _ _).mono ?_
        rintro e w' ⟨rfl, rfl⟩
        rw [H1.out]
        go_wp2_with fail
        go_round
        case rel =>
          refine ⟨k + 1, by omega, by go_num, innerTo_succ hu.out hlt ?_⟩
          show Lx.inner _ = true
          rw [inner_eq, H1.out]; simp
        case measure => simp [intOf]; omega
    · go_wp2_with fail
      go_ret
      rw [hd_len hu.out (.inl (by omega))]
      exact ⟨rfl, rfl⟩
theorem hd_full (p : Int → Bool) (l : List UInt8) : ((((Lx.hd p l).length : Nat) : Int) == ((l.length : Nat) : Int)) = (Lx.hd p l == l) := by
  rw [Bool.eq_iff_iff, beq_iff_eq, beq_iff_eq]
  constructor
  · intro h
    exact List.IsPrefix.eq_of_length (List.takeWhile_prefix _) (by omega)
  · intro h; rw [h]
set_option maxHeartbeats 2000000 in
theorem refname (l : List UInt8) (hl : l.length ≤ maxLen) (w : World) :
    Calls Try.prog 13 #[.string ⟨l.toArray⟩] w fun e w' => e = .returned (.bool (Lx.isName l)) ∧ Below w.heap.size w w' := by
  have HL := Lib.hid hl
  unfold maxLen at hl
  by_cases h0 : l = []
  · subst h0
    go_enter Try.func13, Try.ntmps13
    go_wp2_with fail
    go_ret
    exact ⟨rfl, Below.refl _ _⟩
  · have hp : 0 < l.length := List.length_pos_iff.2 h0
    have hh := headD_at hp
    have hcb : ((l[0]'hp).toNat : Int) ≤ 255 := by have := (l[0]'hp).toNat_lt; omega
    by_cases h16 : 16 < l.length
    · have hN : Lx.isName l = false := by unfold Lx.isName; simp; omega
      rw [hN]
      clear h0 hh hcb
      go_enter Try.func13, Try.ntmps13
      go_wp2_with fail
      go_ret
      exact ⟨rfl, Below.refl _ _⟩
    · have hN : Lx.isName l = (Lx.letter ((l[0]'hp).toNat : Int) && (Lx.hd Lx.inner l == l) && !Lx.isWord l) := by
        unfold Lx.isName
        rw [hh]
        have e1 : decide (0 < l.length) = true := by simpa using hp
        have e2 : decide (l.length ≤ 16) = true := by simp; omega
        rw [e1, e2]; rfl
      rw [hN]
      clear hN h0 hh
      rcases h1 : Lx.letter ((l[0]'hp).toNat : Int) with _ | _
      · have H1 := Lib.hid h1
        clear h1
        go_enter Try.func13, Try.ntmps13
        go_wp2_with fail
        refine (refletter_any _ _).mono ?_
        rintro e w' ⟨rfl, rfl⟩
        rw [H1.out]
        go_wp2_with fail
        go_ret
        exact ⟨rfl, Below.refl _ _⟩
      · have H1 := Lib.hid h1
        clear h1
        have hf := hd_full Lx.inner l
        rcases h2 : (Lx.hd Lx.inner l == l) with _ | _
        · rw [h2] at hf
          clear h2
          go_enter Try.func13, Try.ntmps13
          go_wp2_with fail
          refine (refletter_any _ _).mono ?_
          rintro e w' ⟨rfl, rfl⟩
          rw [H1.out]
          go_wp2_with fail
          refine (refrun l HL.out _).mono ?_
          rintro e w1 ⟨rfl, rfl⟩
          go_wp2_with fail
          go_ret
          exact ⟨rfl, Below.refl _ _⟩
        · rw [h2] at hf
          clear h2
          go_enter Try.func13, Try.ntmps13
          go_wp2_with fail
          refine (refletter_any _ _).mono ?_
          rintro e w' ⟨rfl, rfl⟩
          rw [H1.out]
          go_wp2_with fail
          refine (refrun l HL.out _).mono ?_
          rintro e w1 ⟨rfl, rfl⟩
          go_wp2_with fail
          refine (refword l _).mono ?_
          rintro e w' ⟨rfl, hb1⟩
          go_wp2_with fail
          go_ret
          exact ⟨by simp, hb1⟩
end Go.Proofs.Ytjgklpjmbogimaa
