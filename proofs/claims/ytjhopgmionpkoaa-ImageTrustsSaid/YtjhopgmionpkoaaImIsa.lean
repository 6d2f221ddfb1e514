/-
  Codes in plain Lean: what is laid down is read as it was, and only that.
-/
import Derived.Test.YtjhopgmionpkoaaIsa2
namespace Go.Proofs.Ytjhopgmionpkoaa
set_option maxRecDepth 20000
open Go.RowKit Mem

theorem bytesOf_len (i : Ia.Ins) : (Ia.bytesOf i).length = 1 + Ia.form i.op := by simp only [Ia.bytesOf, List.length_cons, Ia.le_length]; omega
theorem size_len {i : Ia.Ins} (h : Ia.right i = 0) : Ia.size i = (Ia.bytesOf i).length := by rw [size_ok h, bytesOf_len]
theorem wrong_all : ∀ (l : List Ia.Ins), Ia.wrong l = 0 → ∀ i ∈ l, Ia.right i = 0
  | [], _, i, h => by cases h
  | j :: r, hw, i, h => by
    simp only [Ia.wrong] at hw
    by_cases h1 : Ia.right j ≠ 0
    · rw [if_pos h1] at hw; exact absurd hw h1
    · rw [if_neg h1] at hw
      rcases List.mem_cons.1 h with rfl | h
      · omega
      · exact wrong_all r hw i h
theorem decL_back (N : Nat) : ∀ (l : List Ia.Ins) (k : Nat), (∀ i ∈ l, Ia.right i = 0) → (∀ i ∈ l, InsOk i) → k + l.length ≤ 600 → Ia.decL N k (Ia.encode l) = (l, 0, 0)
  | [], k, _, _, _ => Ia.decL_nil N k
  | i :: r, k, hr, ho, hk => by
    have h1 := hr i (by simp)
    have h2 := ho i (by simp)
    have hb := Ia.readB_bytes h1 h2.2.1 h2.2.2 (Ia.encode r)
    have he : Ia.encode (i :: r) = Ia.bytesOf i ++ Ia.encode r := rfl
    have hne : Ia.bytesOf i ++ Ia.encode r ≠ [] := by simp [Ia.bytesOf]
    simp only [List.length_cons] at hk
    have hd : (Ia.bytesOf i ++ Ia.encode r).drop (Ia.size i) = Ia.encode r := by rw [size_len h1, List.drop_left]
    rw [he, Ia.decL_good N hne (by omega) (by rw [hb]), hb]
    dsimp only
    rw [hd, decL_back N r (k + 1) (fun i h => hr i (by simp [h])) (fun i h => ho i (by simp [h])) (by omega)]
    simp
theorem decode_back (l : List Ia.Ins) (hw : Ia.wrong l = 0) (ho : ∀ i ∈ l, InsOk i) (hk : l.length ≤ 600) : Ia.decode (Ia.encode l) = (l, 0, 0) :=
  decL_back _ l 0 (wrong_all l hw) ho (by omega)
theorem decF_len (N : Nat) : ∀ (f k : Nat) (l : Ia.Bs), k ≤ 600 → (Ia.decF N f k l).1.length + k ≤ 600
  | 0, k, _, h => by simp [Ia.decF]; exact h
  | f + 1, k, l, h => by
    unfold Ia.decF
    by_cases h1 : l = []
    · simp [h1]; exact h
    · rw [if_neg h1]
      by_cases h2 : k = 600
      · simp [h2]
      · rw [if_neg h2]
        simp only
        by_cases h3 : (Ia.readB l).2.2 ≠ 0
        · rw [if_pos h3]; simp; exact h
        · rw [if_neg h3]
          have ih := decF_len N f (k + 1) (l.drop (Ia.readB l).2.1) (by omega)
          by_cases h4 : (Ia.decF N f (k + 1) (l.drop (Ia.readB l).2.1)).2.1 ≠ 0
          · rw [if_pos h4]; simp; exact h
          · rw [if_neg h4]; show (Ia.decF N f (k + 1) (l.drop (Ia.readB l).2.1)).1.length + 1 + k ≤ 600; omega
theorem decode_len (bs : Ia.Bs) : (Ia.decode bs).1.length ≤ 600 := by
  have := decF_len bs.length (bs.length + 1) 0 bs (by omega)
  unfold Ia.decode
  omega
/-- what is read was laid down so, or there is a fault at a place within -/
def DOnly (N : Nat) (l : Ia.Bs) (r : List Ia.Ins × Int × Int) : Prop :=
  (r.2.1 = 0 ∧ r.2.2 = 0 ∧ Ia.encode r.1 = l ∧ Ia.wrong r.1 = 0 ∧ ∀ i ∈ r.1, InsOk i) ∨ (r.2.1 ≠ 0 ∧ r.1 = [] ∧ 0 ≤ r.2.2 ∧ r.2.2 < N)
theorem decF_only (N : Nat) : ∀ (f k : Nat) (l : Ia.Bs), l.length < f → l.length ≤ N → k ≤ 600 → DOnly N l (Ia.decF N f k l)
  | 0, _, _, h, _, _ => absurd h (Nat.not_lt_zero _)
  | f + 1, k, l, h, hN, hk => by
    unfold Ia.decF
    by_cases h1 : l = []
    · rw [if_pos h1]; left; subst h1; exact ⟨rfl, rfl, rfl, rfl, fun i hi => by cases hi⟩
    · rw [if_neg h1]
      have hl : 0 < l.length := List.length_pos_iff.2 h1
      by_cases h2 : k = 600
      · rw [if_pos h2]; right; refine ⟨by simp, rfl, ?_, ?_⟩ <;> dsimp only <;> omega
      · rw [if_neg h2]
        simp only
        by_cases h3 : (Ia.readB l).2.2 ≠ 0
        · rw [if_pos h3]; right; refine ⟨h3, rfl, ?_, ?_⟩ <;> dsimp only <;> omega
        · rw [if_neg h3]
          have h3' : (Ia.readB l).2.2 = 0 := by omega
          have hr := Ia.readB_len h3'
          have ho := Ia.readB_only (l := l) (i := (Ia.readB l).1) (n := (Ia.readB l).2.1) (by rw [← h3'])
          have hf := Ia.form_op (Ia.right_form ho.1)
          have ih := decF_only N f (k + 1) (l.drop (Ia.readB l).2.1) (by rw [List.length_drop]; omega) (by rw [List.length_drop]; omega) (by omega)
          show DOnly N l (if (Ia.decF N f (k + 1) (l.drop (Ia.readB l).2.1)).2.1 ≠ 0 then ([], (Ia.decF N f (k + 1) (l.drop (Ia.readB l).2.1)).2.1, (Ia.decF N f (k + 1) (l.drop (Ia.readB l).2.1)).2.2) else ((Ia.readB l).1 :: (Ia.decF N f (k + 1) (l.drop (Ia.readB l).2.1)).1, 0, 0))
          generalize Ia.decF N f (k + 1) (l.drop (Ia.readB l).2.1) = r at *
          rcases ih with ⟨g1, g2, g3, g4, g5⟩ | ⟨g1, g2, g3, g4⟩
          · rw [if_neg (fun hh => hh g1)]
            left
            refine ⟨rfl, rfl, ?_, ?_, ?_⟩
            · show Ia.bytesOf (Ia.readB l).1 ++ Ia.encode r.1 = l
              rw [g3]; exact ho.2.1.symm
            · show (if Ia.right (Ia.readB l).1 ≠ 0 then Ia.right (Ia.readB l).1 else Ia.wrong r.1) = 0
              rw [if_neg (fun hh => hh ho.1)]; exact g4
            · intro i hi
              rcases List.mem_cons.1 hi with rfl | hi
              · exact ⟨by omega, ho.2.2.2.2.2.1, ho.2.2.2.2.2.2⟩
              · exact g5 i hi
          · rw [if_pos g1]
            right
            exact ⟨g1, rfl, g3, g4⟩
theorem decode_only (bs : Ia.Bs) :
    ((Ia.decode bs).2.1 = 0 ∧ (Ia.decode bs).2.2 = 0 ∧ encOf (Ia.decode bs).1 = (bs, 0) ∧ (∀ i ∈ (Ia.decode bs).1, InsOk i)) ∨
    ((Ia.decode bs).2.1 ≠ 0 ∧ (Ia.decode bs).1 = [] ∧ 0 ≤ (Ia.decode bs).2.2 ∧ (Ia.decode bs).2.2 < bs.length) := by
  rcases decF_only bs.length (bs.length + 1) 0 bs (by omega) (Nat.le_refl _) (by omega) with ⟨g1, g2, g3, g4, g5⟩ | h
  · left
    refine ⟨g1, g2, ?_, g5⟩
    have hl := decode_len bs
    rw [encOf_ok (l := (Ia.decode bs).1) (by omega) g4]
    exact congrArg (fun x => (x, (0 : Int))) g3
  · exact .inr h
end Go.Proofs.Ytjhopgmionpkoaa
