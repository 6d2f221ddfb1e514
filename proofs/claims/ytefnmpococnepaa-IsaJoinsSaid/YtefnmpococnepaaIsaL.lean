/-
  Numbers behind bytes, an instruction in bytes, and how many bytes it has: by the reference, and the size by the package isa.
-/
import Derived.Test.YtefnmpococnepaaIsaK
namespace Go.Proofs.Ytefnmpococnepaa
open Go.RowKit Mem

theorem le_div : ∀ (wd n : Nat), n < 256 ^ wd → n / 256 ^ wd = 0 := fun _ _ h => Nat.div_eq_of_lt h
set_option maxHeartbeats 4000000 in
theorem refdigits (n wd : Nat) (w : World) (hn : (n : Int) ≤ 4294967295) (h8 : wd ≤ 8) :
    Calls Try.prog 40 #[.int .u64 n, .int .i64 wd] w fun e w' => ∃ v, e = .returned (.tuple #[v, .int .u64 ((n / 256 ^ wd : Nat) : Int)]) ∧ w'.ownsRow w.heap.size 5 1 v wd (bcells (Ia.le wd n)) ∧ Below w.heap.size w w' := by
  obtain ⟨i0, hi, hi0, hi1, hi2⟩ := info_parts infoByte
  go_enter Try.func40, Try.ntmps40
  go_wp2_with fail
  go_loopw [0, 6, 7] (fun m v i wr => ∃ k : Nat, k ≤ wd ∧ i = .int .i64 k ∧ m = .int .u64 ((n / 256 ^ k : Nat) : Int) ∧ Hid (wr.ownsRow w.heap.size 5 1 v k (bcells ((Ia.le wd n).take k))) ∧ Hid (Below w.heap.size w wr)) (fun _ _ i _ => wd - (intOf i).toNat)
  case atStart => exact ⟨0, Nat.zero_le _, rfl, by simp, World.ownsRow_nil _ _ _ _, Below.refl _ _⟩
  case round =>
    obtain ⟨k, hk, rfl, rfl, hO, hB⟩ := hrel
    by_cases hlt : k < wd
    · have HL := Lib.hid (le_take_succ wd n k hlt)
      have hbz := hB.out.size
      have hdiv : n / 256 ^ k ≤ n := Nat.div_le_self _ _
      have HS := Lib.hid (show n / 256 ^ (k + 1) = n / 256 ^ k / 256 by rw [Nat.pow_succ, Nat.div_div_eq_div_mul])
      generalize n / 256 ^ k = q at *
      have hq0 : (0 : Int) ≤ q := by omega
      have hq1 : (q : Int) ≤ 4294967295 := by omega
      obtain ⟨u, hu⟩ : ∃ u : UInt8, u = UInt8.ofNat (q % 256) := ⟨_, rfl⟩
      have HU := Lib.hid (show ((q : Int) % 256) = (u.toNat : Int) by rw [hu, UInt8.toNat_ofNat']; omega)
      rw [← hu] at HL
      clear hdiv hu
      go_wp2_with ((at_builtin; refine wpList_append_own _ rfl _ _ 22 rfl w.heap.size 5 i0 (.int .u8 0) 1 1 Try.underlying22 hi hi0 hi1 hi2 rfl (by decide) _ _ _ rfl (hO.out.alloc _) ⟨wr.heap.size, 0, none⟩ 1 1 [.int .u8 ((q : Int) % 256)] rfl rfl ?c1 ?c2 ?c3 ?c4 ?c5 ?_))
      case c1 => exact cells_new _ _ _ _ rfl
      case c2 => intro u hu; rw [List.mem_singleton] at hu; subst hu; rfl
      case c3 => unfold maxLen; omega
      case c4 => omega
      case c5 => simp; omega
      intro v' w3 hown3 hgrow _
      have HB3 : Hid (Below w.heap.size w w3) := (hB.out.alloc hB.out.size _).grown hgrow (by simp; omega) (fun b hb => (hO.out.lt b hb).1)
      have hcell : bcells ((Ia.le wd n).take (k + 1)) = bcells ((Ia.le wd n).take k) ++ [.int .u8 ((q : Int) % 256)] := by
        rw [HL.out, bcells_append _ [_], HU.out]
        rfl
      rw [← hcell] at hown3
      have HO3 := Lib.hid hown3
      clear hown3 hgrow hcell
      go_wp2_with fail
      go_roundw
      case rel => exact ⟨k + 1, by omega, by go_num, by rw [HS.out]; first | rfl | go_num, HO3, HB3⟩
      case measure => simp [intOf]; omega
    · obtain rfl : k = wd := by omega
      have hO2 := hO.out
      rw [List.take_of_length_le (by rw [Ia.le_length]; exact Nat.le_refl _)] at hO2
      have HO2 := Lib.hid hO2
      clear hO2 hO
      go_wp2_with fail
      go_ret2
      exact ⟨_, rfl, HO2.out, hB.out⟩
set_option maxHeartbeats 4000000 in
theorem refjoin (a b : List UInt8) (A A' : Option Addr) (c c' : Nat) (w : World) (hA : BSrc w A c a) (hA' : BSrc w A' c' b) (hn : a.length + b.length ≤ 140737488351232) :
    Calls Try.prog 41 #[.slice A a.length c, .slice A' b.length c'] w fun e w' => ∃ v, e = .returned v ∧ w'.ownsRow w.heap.size 5 1 v (a.length + b.length) (bcells (a ++ b)) ∧ Below w.heap.size w w' := by
  have HA := Lib.hid hA
  have HA' := Lib.hid hA'
  clear hA hA'
  obtain ⟨i0, hi, hi0, hi1, hi2⟩ := info_parts infoByte
  go_enter Try.func41, Try.ntmps41
  go_wp2_with (at_builtin; refine wpList_app_any rfl (.tmp 6) (.tmp 7) 22 rfl w.heap.size 5 i0 (.int .u8 0) 1 1 Try.underlying22 hi hi0 hi1 hi2 rfl (by decide) (.slice none 0 0) 0 [] rfl (World.ownsRow_nil _ _ _ _) A a.length c (bcells a) rfl HA.out (bcells_one a) ?c3 ?c4 (Nat.le_refl _) ?_)
  case c3 => unfold maxLen; omega
  case c4 => omega
  intro v1 w1 hown1 hg1
  have HB1 : Hid (Below w.heap.size w w1) := (Below.refl _ _).grown hg1 (Nat.le_refl _) (by simp [Value.ownBlock])
  try simp only [Nat.zero_add, List.nil_append] at hown1
  have HO1 := Lib.hid hown1
  clear hown1 hg1
  go_wp2_with (at_builtin; refine wpList_app_any rfl (.tmp 9) (.tmp 10) 22 rfl w.heap.size 5 i0 (.int .u8 0) 1 1 Try.underlying22 hi hi0 hi1 hi2 rfl (by decide) v1 a.length (bcells a) rfl HO1.out A' b.length c' (bcells b) rfl (HA'.out.below HB1.out (Nat.le_refl _)) (bcells_one b) ?c3 ?c4 HB1.out.size ?_)
  case c3 => unfold maxLen; omega
  case c4 => omega
  intro v2 w2 hown2 hg2
  have HB2 : Hid (Below w.heap.size w w2) := HB1.out.grown hg2 HB1.out.size (fun b hb => (HO1.out.lt b hb).1)
  rw [← bcells_append] at hown2
  have HO2 := Lib.hid hown2
  clear hown2 hg2
  go_wp2_with fail
  go_ret
  exact ⟨_, rfl, HO2.out, HB2.out⟩
set_option maxHeartbeats 4000000 in
theorem refput (bs : List UInt8) (A : Option Addr) (c wd n : Nat) (w : World) (hA : BSrc w A c bs) (hl : bs.length ≤ 1099511627776) (hn : (n : Int) ≤ 4294967295) (h1 : 1 ≤ wd) (h8 : wd < 8) (hf : n < 256 ^ wd) :
    Calls Try.prog 37 #[.slice A bs.length c, .int .i64 wd, .int .u64 n] w fun e w' => ∃ v, e = .returned (.tuple #[v, .int .i64 0]) ∧ w'.ownsRow w.heap.size 5 1 v (bs.length + wd) (bcells (bs ++ Ia.le wd n)) ∧ Below w.heap.size w w' := by
  have HA := Lib.hid hA
  have HZ := Lib.hid (le_div wd n hf)
  clear hA hf
  have hl2 := Ia.le_length wd n
  have HL2 := Lib.hid hl2
  clear hl2
  go_enter Try.func37, Try.ntmps37
  go_wp2_with fail
  refine (refdigits n wd _ hn (by omega)).mono ?_
  rintro e w1 ⟨v1, rfl, hown1, hb1⟩
  rw [HZ.out]
  obtain ⟨A1, c1, rfl⟩ := own_slice hown1
  have HO1 : Hid (BSrc w1 A1 c1 (Ia.le wd n)) := by
    have := Src.of_own hown1
    unfold BSrc
    rw [HL2.out]; exact this
  have HB1 := Lib.hid hb1
  clear hown1 hb1
  go_wp2_with fail
  have hj := fun W h h' => refjoin bs (Ia.le wd n) A A1 c c1 W h h' (by rw [HL2.out]; omega)
  rw [HL2.out] at hj
  refine (hj _ (HA.out.below HB1.out (Nat.le_refl _)) HO1.out).mono ?_
  rintro e w2 ⟨v2, rfl, hown2, hb2⟩
  have HO2 := Lib.hid (own_base hown2 HB1.out.size)
  have HB2 := Lib.hid (HB1.out.trans (hb2.mono HB1.out.size))
  clear hown2 hb2 hj
  go_wp2_with fail
  go_ret2
  exact ⟨_, rfl, HO2.out, HB2.out⟩
set_option maxHeartbeats 4000000 in
theorem refplain_neg (x : Int) (h0 : x < 0) (h1 : -2147483648 ≤ x) (w : World) :
    Calls Try.prog 38 #[.int .i32 x] w fun e w' => e = .returned (.int .u32 (x + 4294967296)) ∧ w = w' := by
  go_enter Try.func38, Try.ntmps38
  go_wp2_with fail
  go_ret
  first | exact ⟨rfl, rfl⟩ | exact ⟨ret_int (by omega), rfl⟩
set_option maxHeartbeats 4000000 in
theorem refplain_pos (x : Int) (h0 : 0 ≤ x) (h1 : x ≤ 2147483647) (w : World) :
    Calls Try.prog 38 #[.int .i32 x] w fun e w' => e = .returned (.int .u32 x) ∧ w = w' := by
  go_enter Try.func38, Try.ntmps38
  go_wp2_with fail
  go_ret
  first | exact ⟨rfl, rfl⟩ | exact ⟨ret_int (by omega), rfl⟩
theorem refplain (n : Int) (h1 : -2147483648 ≤ n) (h2 : n ≤ 2147483647) (w : World) :
    Calls Try.prog 38 #[.int .i32 n] w fun e w' => e = .returned (.int .u32 (Ia.plainN n)) ∧ w = w' := by
  by_cases h : n < 0
  · have e : (Ia.plainN n : Int) = n + 4294967296 := by unfold Ia.plainN; omega
    rw [e]; exact refplain_neg n h h1 w
  · have e : (Ia.plainN n : Int) = n := by unfold Ia.plainN; omega
    rw [e]; exact refplain_pos n (by omega) h2 w
theorem src_one (W : World) (c : UInt8) (t : TypeId) : BSrc ((W.alloc (.cells #[.int .u8 (c.toNat : Int)] t)).drew) (some ⟨W.heap.size, 0, none⟩) 1 [c] := by
  refine ⟨rfl, fun h => (by cases h), ?_⟩
  intro ad hx j u hu
  injection hx with hx
  subst hx
  exact cells_new W _ t _ rfl j u hu
end Go.Proofs.Ytefnmpococnepaa
