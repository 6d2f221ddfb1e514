/-
  The walk of the law IsaOnly: whatever bytes are read as a code are just the bytes that it is laid down in.
-/
import Derived.Test.YtefnmpococnepaaIsaCodesW
namespace Go.Proofs.Ytefnmpococnepaa
open Go.RowKit Mem

/-- what is read was laid down so, or there is a fault at a place within -/
def DOnly (N : Nat) (l : Ia.Bs) (r : List Ia.Ins × Int × Int) : Prop :=
  (r.2.1 = 0 ∧ r.2.2 = 0 ∧ Ia.encode r.1 = l ∧ Ia.wrong r.1 = 0 ∧ ∀ i ∈ r.1, InsOk i) ∨ (r.2.1 ≠ 0 ∧ r.1 = [] ∧ 0 ≤ r.2.2 ∧ r.2.2 < N)
theorem decF_only (N : Nat) : ∀ (f k : Nat) (l : Ia.Bs), l.length < f → l.length ≤ N → k ≤ 600 → DOnly N l (Ia.decF N f k l)
  | 0, _, _, h, _, _ => absurd h (Nat.not_lt_zero _)
  | f + 1, k, l, h, hN, hk => by
    unfold Ia.decF
    by_cases h1 : l = []
    · rw [if_pos h1]; left; subst h1; exact ⟨rfl, rfl, rfl, rfl, fun i hi => by cases hi⟩
    · rw [if_neg h1]
      have hl : 0 < l.length := List.length_pos_iff.2 h1
      by_cases h2 : k = 600
      · rw [if_pos h2]; right; refine ⟨by simp, rfl, ?_, ?_⟩ <;> dsimp only <;> omega
      · rw [if_neg h2]
        simp only
        by_cases h3 : (Ia.readB l).2.2 ≠ 0
        · rw [if_pos h3]; right; refine ⟨h3, rfl, ?_, ?_⟩ <;> dsimp only <;> omega
        · rw [if_neg h3]
          have h3' : (Ia.readB l).2.2 = 0 := by omega
          have hr := Ia.readB_len h3'
          have ho := Ia.readB_only (l := l) (i := (Ia.readB l).1) (n := (Ia.readB l).2.1) (by rw [← h3'])
          have hf := Ia.form_op (Ia.right_form ho.1)
          have ih := decF_only N f (k + 1) (l.drop (Ia.readB l).2.1) (by rw [List.length_drop]; omega) (by rw [List.length_drop]; omega) (by omega)
          show DOnly N l (if (Ia.decF N f (k + 1) (l.drop (Ia.readB l).2.1)).2.1 ≠ 0 then ([], (Ia.decF N f (k + 1) (l.drop (Ia.readB l).2.1)).2.1, (Ia.decF N f (k + 1) (l.drop (Ia.readB l).2.1)).2.2) else ((Ia.readB l).1 :: (Ia.decF N f (k + 1) (l.drop (Ia.readB l).2.1)).1, 0, 0))
          generalize Ia.decF N f (k + 1) (l.drop (Ia.readB l).2.1) = r at *
          rcases ih with ⟨g1, g2, g3, g4, g5⟩ | ⟨g1, g2, g3, g4⟩
          · rw [if_neg (fun hh => hh g1)]
            left
            refine ⟨rfl, rfl, ?_, ?_, ?_⟩
            · show Ia.bytesOf (Ia.readB l).1 ++ Ia.encode r.1 = l
              rw [g3]; exact ho.2.1.symm
            · show (if Ia.right (Ia.readB l).1 ≠ 0 then Ia.right (Ia.readB l).1 else Ia.wrong r.1) = 0
              rw [if_neg (fun hh => hh ho.1)]; exact g4
            · intro i hi
              rcases List.mem_cons.1 hi with rfl | hi
              · exact ⟨by omega, ho.2.2.2.2.2.1, ho.2.2.2.2.2.2⟩
              · exact g5 i hi
          · rw [if_pos g1]
            right
            exact ⟨g1, rfl, g3, g4⟩
theorem decode_only (bs : Ia.Bs) :
    ((Ia.decode bs).2.1 = 0 ∧ (Ia.decode bs).2.2 = 0 ∧ encOf (Ia.decode bs).1 = (bs, 0) ∧ (∀ i ∈ (Ia.decode bs).1, InsOk i)) ∨
    ((Ia.decode bs).2.1 ≠ 0 ∧ (Ia.decode bs).1 = [] ∧ 0 ≤ (Ia.decode bs).2.2 ∧ (Ia.decode bs).2.2 < bs.length) := by
  rcases decF_only bs.length (bs.length + 1) 0 bs (by omega) (Nat.le_refl _) (by omega) with ⟨g1, g2, g3, g4, g5⟩ | h
  · left
    refine ⟨g1, g2, ?_, g5⟩
    have hl := decode_len bs
    rw [encOf_ok (l := (Ia.decode bs).1) (by omega) g4]
    exact congrArg (fun x => (x, (0 : Int))) g3
  · exact .inr h
set_option maxHeartbeats 4000000 in
theorem isaOnly_walk (w : World) (A : Option Addr) (c : Nat) (bs : List UInt8) (hw : BSrc w A c bs ∧ bs.length ≤ 140737488351232) :
    Calls Try.prog 7 #[.slice A bs.length c] w fun e w' => e = .returned (.bool true) ∧ Below w.heap.size w w' := by
  obtain ⟨hA, hn⟩ := hw
  have HA := Lib.hid hA.at_
  clear hA
  by_cases hbig : 10000 < bs.length
  · go_enter Try.func7, Try.ntmps7
    go_wp2_with fail
    refine (known_any _).mono ?_
    rintro e w1 ⟨rfl, hb1⟩
    go_wp2_with fail
    go_ret
    exact ⟨rfl, hb1⟩
  · have hlen := decode_len bs
    have HD := Lib.hid (isadecode bs A c w HA.out hn)
    rcases decode_only bs with ⟨g1, g2, g3, g5⟩ | ⟨g1, g2, g3, g4⟩
    · rw [g1, g2] at HD
      have HE := Lib.hid (fun A c W h => isaencode (Ia.decode bs).1 A c W h (by omega) (fun k h => (g5 _ (List.getElem_mem h)).2))
      rw [g3] at HE
      clear g1 g2 g3 g5
      generalize (Ia.decode bs).1 = l at *
      dsimp only at HE
      go_enter Try.func7, Try.ntmps7
      go_wp2_with fail
      refine HD.out.mono ?_
      rintro e w1 ⟨v1, rfl, ho1, hb1⟩
      obtain ⟨A1, c1, rfl⟩ := own_slice ho1
      have HI1 := Lib.hid (InsAt.of_own ho1)
      have HB1 := Lib.hid hb1
      clear ho1 hb1 HD
      go_wp2_with fail
      refine (HE.out A1 c1 _ HI1.out).mono ?_
      rintro e w2 ⟨vx, rfl, hox, hb2⟩
      obtain ⟨Ax, cx, rfl⟩ := own_slice hox
      have HB2 := Lib.hid (HB1.out.trans (hb2.mono HB1.out.size))
      have cv1 := conv_bytes w2 Ax cx bs (BytesAt.of_own hox)
      have cv2 := conv_bytes w2 A c bs (HA.out.below HB2.out (Nat.le_refl _))
      clear hox hb2
      go_wp2_with fail
      clear cv1 cv2
      refine (known_any _).mono ?_
      rintro e w5 ⟨rfl, hb5⟩
      go_wp2_with fail
      go_ret
      exact ⟨rfl, HB2.out.trans (hb5.mono HB2.out.size)⟩
    · rw [g2] at HD
      have gb : ((Ia.decode bs).2.1 != 0) = true := by rw [bne_iff_ne]; exact g1
      clear g1 g2
      generalize (Ia.decode bs).2.1 = er at *
      generalize (Ia.decode bs).2.2 = tt at *
      clear hlen
      go_enter Try.func7, Try.ntmps7
      go_wp2_with fail
      refine HD.out.mono ?_
      rintro e w1 ⟨v1, rfl, ho1, hb1⟩
      obtain ⟨A1, c1, rfl⟩ := own_slice ho1
      have HB1 := Lib.hid hb1
      clear ho1 hb1 HD
      go_wp2_with fail
      refine (known_any _).mono ?_
      rintro e w5 ⟨rfl, hb5⟩
      go_wp2_with fail
      go_ret
      exact ⟨rfl, HB1.out.trans (hb5.mono HB1.out.size)⟩
end Go.Proofs.Ytefnmpococnepaa
