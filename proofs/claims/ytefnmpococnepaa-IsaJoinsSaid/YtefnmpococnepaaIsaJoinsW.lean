/-
  The walk of the law IsaJoins: two codes one behind the other are laid down as the bytes of both.
-/
import Derived.Test.YtefnmpococnepaaIsaCodesW
namespace Go.Proofs.Ytefnmpococnepaa
open Go.RowKit Mem

theorem ba_append (a b : List UInt8) : (ByteArray.mk a.toArray) ++ (ByteArray.mk b.toArray) = ByteArray.mk (a ++ b).toArray := by
  apply ByteArray.ext
  simp [ByteArray.data_append]
attribute [local go_sem] ba_append
theorem wrong_left : ∀ a b : List Ia.Ins, Ia.wrong a ≠ 0 → Ia.wrong (a ++ b) = Ia.wrong a
  | [], _, h => absurd rfl h
  | i :: r, b, h => by
    simp only [List.cons_append, Ia.wrong] at h ⊢
    by_cases h1 : Ia.right i ≠ 0
    · rw [if_pos h1, if_pos h1]
    · rw [if_neg h1] at h ⊢; rw [if_neg h1]; exact wrong_left r b h
/-- the plain law -/
theorem encOf_join (a b : List Ia.Ins) (ha : a.length ≤ 300) (hb : b.length ≤ 300) :
    ((encOf a).2 = 0 ∧ (encOf b).2 = 0 ∧ encOf (a ++ b) = ((encOf a).1 ++ (encOf b).1, 0)) ∨
    (((encOf a).2 ≠ 0 ∨ (encOf a).2 = 0 ∧ (encOf b).2 ≠ 0) ∧ (encOf (a ++ b)).2 ≠ 0 ∧ (encOf (a ++ b)).1 = []) := by
  have e : ∀ l : List Ia.Ins, l.length ≤ 600 → encOf l = if Ia.wrong l ≠ 0 then ([], Ia.wrong l) else (Ia.encode l, 0) := fun l h => by unfold encOf; rw [if_neg (by omega)]
  rw [e a (by omega), e b (by omega), e (a ++ b) (by simp; omega)]
  by_cases h1 : Ia.wrong a = 0
  · by_cases h2 : Ia.wrong b = 0
    · left
      rw [wrong_append a b h1, h1, h2, encode_append]
      simp
    · right
      rw [wrong_append a b h1, h1]
      simp [h2]
  · right
    rw [wrong_left a b h1]
    simp [h1]
theorem encOf_len (l : List Ia.Ins) : (encOf l).1.length ≤ 3000 := by
  unfold encOf
  by_cases h : 600 < l.length
  · rw [if_pos h]; simp
  · rw [if_neg h]
    by_cases h2 : Ia.wrong l ≠ 0
    · rw [if_pos h2]; simp
    · rw [if_neg h2]
      have := encode_len l
      show (Ia.encode l).length ≤ 3000
      omega
set_option maxHeartbeats 4000000 in
theorem isaJoins_ok (w : World) (A : Option Addr) (c : Nat) (a : List Ia.Ins) (A' : Option Addr) (c' : Nat) (b : List Ia.Ins) (hw : InsArg w A c a) (hw' : InsArg w A' c' b) (ha : a.length ≤ 300) (hb : b.length ≤ 300)
    (bx by_ : List UInt8) (hx : encOf a = (bx, 0)) (hy : encOf b = (by_, 0)) (hz : encOf (a ++ b) = (bx ++ by_, 0)) :
    Calls Try.prog 8 #[.slice A a.length c, .slice A' b.length c'] w fun e w' => e = .returned (.bool true) ∧ Below w.heap.size w w' := by
  obtain ⟨hA, hok, hn⟩ := hw
  obtain ⟨hA', hok', hn'⟩ := hw'
  have HA := Lib.hid hA
  have HA' := Lib.hid hA'
  have HEa := Lib.hid (fun A c W h => isaencode a A c W h (by omega) (fun k h => (hok k h).2))
  have HEb := Lib.hid (fun A c W h => isaencode b A c W h (by omega) (fun k h => (hok' k h).2))
  have hokz : ∀ k (h : k < (a ++ b).length), InsOk ((a ++ b)[k]'h) := by
    intro k h
    by_cases hk : k < a.length
    · rw [List.getElem_append_left hk]; exact hok k hk
    · rw [List.getElem_append_right (by omega)]; exact hok' _ _
  have HEz := Lib.hid (fun A c W h => isaencode (a ++ b) A c W h (by rw [List.length_append]; omega) (fun k h => (hokz k h).2))
  have hlx := encOf_len a
  have hly := encOf_len b
  rw [hx] at HEa hlx
  rw [hy] at HEb hly
  rw [hz] at HEz
  dsimp only at HEa HEb HEz hlx hly
  clear hA hA' hok hok' hokz hx hy hz hn hn'
  have hab : (a ++ b).length = a.length + b.length := List.length_append
  have HAB := Lib.hid hab
  rw [hab] at HEz
  clear hab
  obtain ⟨i0, hi, hi0, hi1, hi2⟩ := info_parts infoIns
  go_enter Try.func8, Try.ntmps8
  go_wp2_with fail
  refine (HEa.out A c _ HA.out.at_).mono ?_
  rintro e w1 ⟨vx, rfl, hox, hb1⟩
  obtain ⟨Ax, cx, rfl⟩ := own_slice hox
  have HX1 := Lib.hid (BytesAt.of_own hox)
  have HB1 := Lib.hid hb1
  clear hox hb1
  go_wp2_with fail
  refine (HEb.out A' c' _ (HA'.out.at_.below HB1.out (Nat.le_refl _))).mono ?_
  rintro e w2 ⟨vy, rfl, hoy, hb2⟩
  obtain ⟨Ay, cy, rfl⟩ := own_slice hoy
  have HX2 := Lib.hid (HX1.out.below hb2 (Nat.le_refl _))
  have HY2 := Lib.hid (BytesAt.of_own hoy)
  have HB2 := Lib.hid (HB1.out.trans (hb2.mono HB1.out.size))
  clear hoy hb2
  go_wp2_with fail
  refine (inlent a A c _ (HA.out.below HB2.out (Nat.le_refl _)) (by omega)).mono ?_
  rintro e w3 ⟨vl, rfl, hol, hb3⟩
  have HB23 := Lib.hid hb3
  have HB3 := Lib.hid (HB2.out.trans (hb3.mono HB2.out.size))
  have HL3 := Lib.hid hol
  have hz23 := hb3.size
  clear hol hb3
  go_wp2_with (at_builtin; refine wpList_app_any rfl (.tmp 32) (.tmp 33) 32 rfl w2.heap.size 25 i0 (.agg #[.int .i64 0, .int .i32 0]) 2 16 Try.underlying32 hi hi0 hi1 hi2 rfl (by decide) vl a.length (insCells a) rfl HL3.out A' b.length c' (insCells b) rfl (HA'.out.below HB3.out (Nat.le_refl _)) (insCells_one b) ?c3 ?c4 hz23 ?_)
  case c3 => unfold maxLen; omega
  case c4 => omega
  intro v4 w4 hown4 hg4
  have hb34 : Below w2.heap.size w3 w4 := (Below.refl _ _).grown hg4 hz23 (fun b hb => (HL3.out.lt b hb).1)
  rw [← insCells_append, ← HAB.out] at hown4
  obtain ⟨A4, c4, rfl⟩ := own_slice hown4
  have HI4 := Lib.hid (InsAt.of_own hown4)
  have HB24 := Lib.hid (HB23.out.trans hb34)
  have HB4 := Lib.hid (HB2.out.trans (HB24.out.mono HB2.out.size))
  have HX4 := Lib.hid (HX2.out.below HB24.out (Nat.le_refl _))
  have HY4 := Lib.hid (HY2.out.below HB24.out (Nat.le_refl _))
  clear hown4 hg4 hb34
  go_wp2_with fail
  refine (HEz.out A4 c4 _ HI4.out).mono ?_
  rintro e w5 ⟨vz, rfl, hoz, hb5⟩
  obtain ⟨Az, cz, rfl⟩ := own_slice hoz
  have HB5 := Lib.hid (HB4.out.trans (hb5.mono HB4.out.size))
  have cv1 := conv_bytes w5 Ax cx bx (HX4.out.below hb5 (Nat.le_refl _))
  have cv2 := conv_bytes w5 Ay cy by_ (HY4.out.below hb5 (Nat.le_refl _))
  have cv3 := conv_bytes w5 Az cz (bx ++ by_) (BytesAt.of_own hoz)
  rw [List.length_append] at cv3
  clear hoz hb5
  go_wp2_with fail
  clear cv1 cv2 cv3
  refine (known_any _).mono ?_
  rintro e w6 ⟨rfl, hb6⟩
  go_wp2_with fail
  go_ret
  exact ⟨rfl, HB5.out.trans (hb6.mono HB5.out.size)⟩
set_option maxHeartbeats 4000000 in
theorem isaJoins_b1 (w : World) (A : Option Addr) (c : Nat) (a : List Ia.Ins) (A' : Option Addr) (c' : Nat) (b : List Ia.Ins) (hw : InsArg w A c a) (hw' : InsArg w A' c' b) (ha : a.length ≤ 300) (hb : b.length ≤ 300)
    (bx by_ : List UInt8) (ex ey ez : Int) (hex : (ex != 0) = true) (hez : (ez != 0) = true) (hx : encOf a = (bx, ex)) (hy : encOf b = (by_, ey)) (hz : encOf (a ++ b) = ([], ez)) :
    Calls Try.prog 8 #[.slice A a.length c, .slice A' b.length c'] w fun e w' => e = .returned (.bool true) ∧ Below w.heap.size w w' := by
  obtain ⟨hA, hok, hn⟩ := hw
  obtain ⟨hA', hok', hn'⟩ := hw'
  have HA := Lib.hid hA
  have HA' := Lib.hid hA'
  have HEa := Lib.hid (fun A c W h => isaencode a A c W h (by omega) (fun k h => (hok k h).2))
  have HEb := Lib.hid (fun A c W h => isaencode b A c W h (by omega) (fun k h => (hok' k h).2))
  have hokz : ∀ k (h : k < (a ++ b).length), InsOk ((a ++ b)[k]'h) := by
    intro k h
    by_cases hk : k < a.length
    · rw [List.getElem_append_left hk]; exact hok k hk
    · rw [List.getElem_append_right (by omega)]; exact hok' _ _
  have HEz := Lib.hid (fun A c W h => isaencode (a ++ b) A c W h (by rw [List.length_append]; omega) (fun k h => (hokz k h).2))
  have hlx := encOf_len a
  have hly := encOf_len b
  rw [hx] at HEa hlx
  rw [hy] at HEb hly
  rw [hz] at HEz
  dsimp only at HEa HEb HEz hlx hly
  clear hA hA' hok hok' hokz hx hy hz hn hn'
  have hab : (a ++ b).length = a.length + b.length := List.length_append
  have HAB := Lib.hid hab
  rw [hab] at HEz
  clear hab
  obtain ⟨i0, hi, hi0, hi1, hi2⟩ := info_parts infoIns
  go_enter Try.func8, Try.ntmps8
  go_wp2_with fail
  refine (HEa.out A c _ HA.out.at_).mono ?_
  rintro e w1 ⟨vx, rfl, hox, hb1⟩
  obtain ⟨Ax, cx, rfl⟩ := own_slice hox
  have HX1 := Lib.hid (BytesAt.of_own hox)
  have HB1 := Lib.hid hb1
  clear hox hb1
  go_wp2_with fail
  refine (HEb.out A' c' _ (HA'.out.at_.below HB1.out (Nat.le_refl _))).mono ?_
  rintro e w2 ⟨vy, rfl, hoy, hb2⟩
  obtain ⟨Ay, cy, rfl⟩ := own_slice hoy
  have HX2 := Lib.hid (HX1.out.below hb2 (Nat.le_refl _))
  have HY2 := Lib.hid (BytesAt.of_own hoy)
  have HB2 := Lib.hid (HB1.out.trans (hb2.mono HB1.out.size))
  clear hoy hb2
  go_wp2_with fail
  refine (inlent a A c _ (HA.out.below HB2.out (Nat.le_refl _)) (by omega)).mono ?_
  rintro e w3 ⟨vl, rfl, hol, hb3⟩
  have HB23 := Lib.hid hb3
  have HB3 := Lib.hid (HB2.out.trans (hb3.mono HB2.out.size))
  have HL3 := Lib.hid hol
  have hz23 := hb3.size
  clear hol hb3
  go_wp2_with (at_builtin; refine wpList_app_any rfl (.tmp 32) (.tmp 33) 32 rfl w2.heap.size 25 i0 (.agg #[.int .i64 0, .int .i32 0]) 2 16 Try.underlying32 hi hi0 hi1 hi2 rfl (by decide) vl a.length (insCells a) rfl HL3.out A' b.length c' (insCells b) rfl (HA'.out.below HB3.out (Nat.le_refl _)) (insCells_one b) ?c3 ?c4 hz23 ?_)
  case c3 => unfold maxLen; omega
  case c4 => omega
  intro v4 w4 hown4 hg4
  have hb34 : Below w2.heap.size w3 w4 := (Below.refl _ _).grown hg4 hz23 (fun b hb => (HL3.out.lt b hb).1)
  rw [← insCells_append, ← HAB.out] at hown4
  obtain ⟨A4, c4, rfl⟩ := own_slice hown4
  have HI4 := Lib.hid (InsAt.of_own hown4)
  have HB24 := Lib.hid (HB23.out.trans hb34)
  have HB4 := Lib.hid (HB2.out.trans (HB24.out.mono HB2.out.size))
  have HX4 := Lib.hid (HX2.out.below HB24.out (Nat.le_refl _))
  have HY4 := Lib.hid (HY2.out.below HB24.out (Nat.le_refl _))
  clear hown4 hg4 hb34
  go_wp2_with fail
  refine (HEz.out A4 c4 _ HI4.out).mono ?_
  rintro e w5 ⟨vz, rfl, hoz, hb5⟩
  obtain ⟨Az, cz, rfl⟩ := own_slice hoz
  have HB5 := Lib.hid (HB4.out.trans (hb5.mono HB4.out.size))
  clear hoz hb5
  go_wp2_with fail
  refine (known_any _).mono ?_
  rintro e w6 ⟨rfl, hb6⟩
  go_wp2_with fail
  go_ret
  exact ⟨rfl, HB5.out.trans (hb6.mono HB5.out.size)⟩
set_option maxHeartbeats 4000000 in
theorem isaJoins_b2 (w : World) (A : Option Addr) (c : Nat) (a : List Ia.Ins) (A' : Option Addr) (c' : Nat) (b : List Ia.Ins) (hw : InsArg w A c a) (hw' : InsArg w A' c' b) (ha : a.length ≤ 300) (hb : b.length ≤ 300)
    (bx by_ : List UInt8) (ey ez : Int) (hey : (ey != 0) = true) (hez : (ez != 0) = true) (hx : encOf a = (bx, 0)) (hy : encOf b = (by_, ey)) (hz : encOf (a ++ b) = ([], ez)) :
    Calls Try.prog 8 #[.slice A a.length c, .slice A' b.length c'] w fun e w' => e = .returned (.bool true) ∧ Below w.heap.size w w' := by
  obtain ⟨hA, hok, hn⟩ := hw
  obtain ⟨hA', hok', hn'⟩ := hw'
  have HA := Lib.hid hA
  have HA' := Lib.hid hA'
  have HEa := Lib.hid (fun A c W h => isaencode a A c W h (by omega) (fun k h => (hok k h).2))
  have HEb := Lib.hid (fun A c W h => isaencode b A c W h (by omega) (fun k h => (hok' k h).2))
  have hokz : ∀ k (h : k < (a ++ b).length), InsOk ((a ++ b)[k]'h) := by
    intro k h
    by_cases hk : k < a.length
    · rw [List.getElem_append_left hk]; exact hok k hk
    · rw [List.getElem_append_right (by omega)]; exact hok' _ _
  have HEz := Lib.hid (fun A c W h => isaencode (a ++ b) A c W h (by rw [List.length_append]; omega) (fun k h => (hokz k h).2))
  have hlx := encOf_len a
  have hly := encOf_len b
  rw [hx] at HEa hlx
  rw [hy] at HEb hly
  rw [hz] at HEz
  dsimp only at HEa HEb HEz hlx hly
  clear hA hA' hok hok' hokz hx hy hz hn hn'
  have hab : (a ++ b).length = a.length + b.length := List.length_append
  have HAB := Lib.hid hab
  rw [hab] at HEz
  clear hab
  obtain ⟨i0, hi, hi0, hi1, hi2⟩ := info_parts infoIns
  go_enter Try.func8, Try.ntmps8
  go_wp2_with fail
  refine (HEa.out A c _ HA.out.at_).mono ?_
  rintro e w1 ⟨vx, rfl, hox, hb1⟩
  obtain ⟨Ax, cx, rfl⟩ := own_slice hox
  have HX1 := Lib.hid (BytesAt.of_own hox)
  have HB1 := Lib.hid hb1
  clear hox hb1
  go_wp2_with fail
  refine (HEb.out A' c' _ (HA'.out.at_.below HB1.out (Nat.le_refl _))).mono ?_
  rintro e w2 ⟨vy, rfl, hoy, hb2⟩
  obtain ⟨Ay, cy, rfl⟩ := own_slice hoy
  have HX2 := Lib.hid (HX1.out.below hb2 (Nat.le_refl _))
  have HY2 := Lib.hid (BytesAt.of_own hoy)
  have HB2 := Lib.hid (HB1.out.trans (hb2.mono HB1.out.size))
  clear hoy hb2
  go_wp2_with fail
  refine (inlent a A c _ (HA.out.below HB2.out (Nat.le_refl _)) (by omega)).mono ?_
  rintro e w3 ⟨vl, rfl, hol, hb3⟩
  have HB23 := Lib.hid hb3
  have HB3 := Lib.hid (HB2.out.trans (hb3.mono HB2.out.size))
  have HL3 := Lib.hid hol
  have hz23 := hb3.size
  clear hol hb3
  go_wp2_with (at_builtin; refine wpList_app_any rfl (.tmp 32) (.tmp 33) 32 rfl w2.heap.size 25 i0 (.agg #[.int .i64 0, .int .i32 0]) 2 16 Try.underlying32 hi hi0 hi1 hi2 rfl (by decide) vl a.length (insCells a) rfl HL3.out A' b.length c' (insCells b) rfl (HA'.out.below HB3.out (Nat.le_refl _)) (insCells_one b) ?c3 ?c4 hz23 ?_)
  case c3 => unfold maxLen; omega
  case c4 => omega
  intro v4 w4 hown4 hg4
  have hb34 : Below w2.heap.size w3 w4 := (Below.refl _ _).grown hg4 hz23 (fun b hb => (HL3.out.lt b hb).1)
  rw [← insCells_append, ← HAB.out] at hown4
  obtain ⟨A4, c4, rfl⟩ := own_slice hown4
  have HI4 := Lib.hid (InsAt.of_own hown4)
  have HB24 := Lib.hid (HB23.out.trans hb34)
  have HB4 := Lib.hid (HB2.out.trans (HB24.out.mono HB2.out.size))
  have HX4 := Lib.hid (HX2.out.below HB24.out (Nat.le_refl _))
  have HY4 := Lib.hid (HY2.out.below HB24.out (Nat.le_refl _))
  clear hown4 hg4 hb34
  go_wp2_with fail
  refine (HEz.out A4 c4 _ HI4.out).mono ?_
  rintro e w5 ⟨vz, rfl, hoz, hb5⟩
  obtain ⟨Az, cz, rfl⟩ := own_slice hoz
  have HB5 := Lib.hid (HB4.out.trans (hb5.mono HB4.out.size))
  clear hoz hb5
  go_wp2_with fail
  refine (known_any _).mono ?_
  rintro e w6 ⟨rfl, hb6⟩
  go_wp2_with fail
  go_ret
  exact ⟨rfl, HB5.out.trans (hb6.mono HB5.out.size)⟩
set_option maxHeartbeats 4000000 in
theorem isaJoins_walk (w : World) (A : Option Addr) (c : Nat) (a : List Ia.Ins) (hw : InsArg w A c a) (A' : Option Addr) (c' : Nat) (b : List Ia.Ins) (hw' : InsArg w A' c' b) :
    Calls Try.prog 8 #[.slice A a.length c, .slice A' b.length c'] w fun e w' => e = .returned (.bool true) ∧ Below w.heap.size w w' := by
  by_cases ha : a.length ≤ 300
  · by_cases hb : b.length ≤ 300
    · rcases encOf_join a b ha hb with ⟨h1, h2, h3⟩ | ⟨h1, h2, h3⟩
      · exact isaJoins_ok w A c a A' c' b hw hw' ha hb (encOf a).1 (encOf b).1 (Prod.ext rfl h1) (Prod.ext rfl h2) h3
      · have b2 : ((encOf (a ++ b)).2 != 0) = true := by rw [bne_iff_ne]; exact h2
        rcases h1 with h1 | ⟨h0, h1⟩
        · exact isaJoins_b1 w A c a A' c' b hw hw' ha hb (encOf a).1 (encOf b).1 (encOf a).2 (encOf b).2 _ (by rw [bne_iff_ne]; exact h1) b2 rfl rfl (Prod.ext h3 rfl)
        · exact isaJoins_b2 w A c a A' c' b hw hw' ha hb (encOf a).1 (encOf b).1 (encOf b).2 _ (by rw [bne_iff_ne]; exact h1) b2 (Prod.ext rfl h0) rfl (Prod.ext h3 rfl)
    · clear hw hw'
      go_enter Try.func8, Try.ntmps8
      go_wp2_with fail
      refine (known_any _).mono ?_
      rintro e w1 ⟨rfl, hb1⟩
      go_wp2_with fail
      go_ret
      exact ⟨rfl, hb1⟩
  · clear hw hw'
    go_enter Try.func8, Try.ntmps8
    go_wp2_with fail
    refine (known_any _).mono ?_
    rintro e w1 ⟨rfl, hb1⟩
    go_wp2_with fail
    go_ret
    exact ⟨rfl, hb1⟩
end Go.Proofs.Ytefnmpococnepaa
