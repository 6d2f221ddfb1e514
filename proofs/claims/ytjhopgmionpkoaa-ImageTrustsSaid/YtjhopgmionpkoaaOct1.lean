/-
  Runs of bytes: PutRun and GetRun of octet, and of its reference.
  A run out of bytes: GetRun of octet, and of its reference; numbers that lie within.
  A run out of bytes, by the reference of octet.
  Words as bytes: the function Bytes of octet.
  Bytes as words: the function Words of octet, of whole words.
-/
import Derived.Test.YtjhopgmionpkoaaIsa2
import Derived.Test.YtjhopgmionpkoaaBytes
import Derived.BigQuiet
import Derived.Deep.QuietTactic
import Derived.Deep.DeepCutAuto
namespace Go.Proofs.Ytjhopgmionpkoaa
set_option maxRecDepth 20000
open Go.RowKit Mem

/-- a number at a place; of bytes that have not so many 0 -/
def word (bs : Ia.Bs) (q wd : Nat) : Nat := if q + wd ≤ bs.length then Ia.unle ((bs.drop q).take wd) else 0
/-- the run at a place, and the place behind it -/
def runAt (bs : Ia.Bs) (p : Nat) : Option (Ia.Bs × Nat) := if p + 2 + word bs p 2 ≤ bs.length then some ((bs.drop (p + 2)).take (word bs p 2), p + 2 + word bs p 2) else none
/-- a run: its length, and it -/
def runB (x : Ia.Bs) : Ia.Bs := Ia.le 2 x.length ++ x
theorem runB_length (x : Ia.Bs) : (runB x).length = 2 + x.length := by unfold runB; rw [List.length_append, Ia.le_length]
theorem word_lt (bs : Ia.Bs) (q wd : Nat) : word bs q wd < 256 ^ wd := by
  unfold word
  split
  · refine Nat.lt_of_lt_of_le (Ia.unle_lt _) (Nat.pow_le_pow_right (by omega) ?_)
    rw [List.length_take]; omega
  · exact Nat.pow_pos (by omega)
set_option maxHeartbeats 4000000 in
theorem octputrun (bs x : List UInt8) (A A' : Option Addr) (c c' : Nat) (w : World) (hA : BytesAt w A bs) (hA' : BSrc w A' c' x) (hn : bs.length ≤ 1099511627776) (hx : x.length ≤ 65535) :
    Calls Try.prog 48 #[.slice A bs.length c, .slice A' x.length c'] w fun e w' => ∃ v, e = .returned (.tuple #[v, .int .i64 0]) ∧ w'.ownsRow w.heap.size 5 1 v (bs.length + 2 + x.length) (bcells (bs ++ runB x)) ∧ Below w.heap.size w w' := by
  have HA' := Lib.hid hA'
  have HP := Lib.hid (octput bs A c 2 x.length w hA hn (by omega) (by omega) (by omega))
  obtain ⟨i0, hi, hi0, hi1, hi2⟩ := info_parts infoByte
  clear hA hA'
  go_enter Try.func48, Try.ntmps48
  go_wp2_with fail
  refine HP.out.mono ?_
  rintro e w1 ⟨v1, rfl, hown1, hb1⟩
  have HO1 := Lib.hid hown1
  have HB1 := Lib.hid hb1
  have hbz := hb1.size
  clear hown1 hb1 HP
  go_wp2_with (at_builtin; refine wpList_app_any rfl (.tmp 22) (.tmp 23) 31 rfl w.heap.size 5 i0 (.int .u8 0) 1 1 Try.underlying31 hi hi0 hi1 hi2 rfl (by decide) v1 (bs.length + 2) (bcells (bs ++ Ia.le 2 x.length)) rfl HO1.out A' x.length c' (bcells x) rfl (HA'.out.below HB1.out (Nat.le_refl _)) (bcells_one x) ?c3 ?c4 ?c5 ?_)
  case c3 => unfold maxLen; omega
  case c4 => omega
  case c5 => exact hbz
  intro v2 w2 hown2 hg2
  have HB2 : Hid (Below w.heap.size w w2) := HB1.out.grown hg2 hbz (fun b hb => (HO1.out.lt b hb).1)
  have e : bcells (bs ++ Ia.le 2 x.length) ++ bcells x = bcells (bs ++ runB x) := by rw [← bcells_append, List.append_assoc]; rfl
  rw [e] at hown2
  have HO2 := Lib.hid hown2
  clear hown2 hg2 e
  go_wp2_with fail
  go_ret2
  exact ⟨_, rfl, HO2.out, HB2.out⟩
set_option maxHeartbeats 4000000 in
theorem refputrun (bs x : List UInt8) (A A' : Option Addr) (c c' : Nat) (w : World) (hA : BSrc w A c bs) (hA' : BSrc w A' c' x) (hn : bs.length ≤ 1099511627776) (hx : x.length ≤ 65535) :
    Calls Try.prog 84 #[.slice A bs.length c, .slice A' x.length c'] w fun e w' => ∃ v, e = .returned (.tuple #[v, .int .i64 0]) ∧ w'.ownsRow w.heap.size 5 1 v (bs.length + 2 + x.length) (bcells (bs ++ runB x)) ∧ Below w.heap.size w w' := by
  have HA := Lib.hid hA
  have HA' := Lib.hid hA'
  have HD := Lib.hid (refdigits x.length 2 w (by omega) (by omega))
  clear hA hA'
  go_enter Try.func84, Try.ntmps84
  go_wp2_with fail
  refine HD.out.mono ?_
  rintro e w1 ⟨v1, rfl, hown1, hb1⟩
  obtain ⟨A1, c1, rfl⟩ := own_slice hown1
  have hl2 : (Ia.le 2 x.length).length = 2 := Ia.le_length 2 _
  have HS1 : Hid (BSrc w1 A1 c1 (Ia.le 2 x.length)) := by have := Src.of_own hown1; unfold RowKit.Hid BSrc; rw [hl2]; exact this
  have HB1 := Lib.hid hb1
  have HJ1 := Lib.hid (fun W h1 h2 => refjoin bs (Ia.le 2 x.length) A A1 c c1 W h1 h2 (by rw [hl2]; omega))
  rw [hl2] at HJ1
  clear hown1 hb1 HD hl2
  go_wp2_with fail
  refine (HJ1.out _ (HA.out.below HB1.out (Nat.le_refl _)) HS1.out).mono ?_
  rintro e w2 ⟨v2, rfl, hown2, hb2⟩
  obtain ⟨A2, c2, rfl⟩ := own_slice hown2
  have hl3 : (bs ++ Ia.le 2 x.length).length = bs.length + 2 := by rw [List.length_append, Ia.le_length]
  have HS2 : Hid (BSrc w2 A2 c2 (bs ++ Ia.le 2 x.length)) := by have := Src.of_own hown2; unfold RowKit.Hid BSrc; rw [hl3]; exact this
  have HB2 := Lib.hid (HB1.out.trans (hb2.mono HB1.out.size))
  have HJ2 := Lib.hid (fun W h1 h2 => refjoin (bs ++ Ia.le 2 x.length) x A2 A' c2 c' W h1 h2 (by rw [hl3]; omega))
  rw [hl3] at HJ2
  clear hown2 hb2 HJ1 HS1 hl3
  go_wp2_with fail
  refine (HJ2.out _ HS2.out (HA'.out.below HB2.out (Nat.le_refl _))).mono ?_
  rintro e w3 ⟨v3, rfl, hown3, hb3⟩
  have HB3 := Lib.hid (HB2.out.trans (hb3.mono HB2.out.size))
  have hown4 : w3.ownsRow w.heap.size 5 1 v3 (bs.length + 2 + x.length) (bcells (bs ++ runB x)) := by
    have := own_base hown3 HB2.out.size
    rw [List.append_assoc] at this
    exact this
  have HO4 := Lib.hid hown4
  clear hown3 hown4 hb3 HJ2 HS2
  go_wp2_with fail
  go_ret2
  exact ⟨_, rfl, HO4.out, HB3.out⟩
end Go.Proofs.Ytjhopgmionpkoaa
namespace Go.Proofs.Ytjhopgmionpkoaa
set_option maxRecDepth 20000
open Go.RowKit Mem

theorem get_good {bs : Ia.Bs} {p wd : Nat} (h1 : 1 ≤ wd) (h8 : wd ≤ 8) (h : p + wd ≤ bs.length) : get bs p wd = (word bs p wd, 0) := by
  unfold get word
  rw [if_neg (by omega), if_neg (by omega), if_pos h]
  simp
theorem get_bad {bs : Ia.Bs} {p wd : Nat} (h1 : 1 ≤ wd) (h8 : wd ≤ 8) (h : ¬ p + wd ≤ bs.length) : ∃ er, er ≠ 0 ∧ get bs p wd = (0, er) ∧ word bs p wd = 0 := by
  unfold get word
  by_cases h2 : bs.length < p
  · rw [if_pos (by omega), if_neg h]; exact ⟨1, by decide, rfl, rfl⟩
  · rw [if_neg (by omega), if_pos (by omega), if_neg h]; exact ⟨2, by decide, rfl, rfl⟩
theorem word_two {bs : Ia.Bs} {p : Nat} (h : p + 2 ≤ bs.length) : (word bs p 2 : Int) = ((bs[p]'(by omega)).toNat : Int) + 256 * ((bs[p + 1]'(by omega)).toNat : Int) := by
  unfold word
  rw [if_pos h, List.drop_eq_getElem_cons (show p < bs.length by omega), List.drop_eq_getElem_cons (show p + 1 < bs.length by omega)]
  simp only [List.take_succ_cons, List.take_zero, Ia.unle]
  omega
theorem run_mid (bs : Ia.Bs) (p n : Nat) : (bs.drop p).take n = (bs.take (p + n)).drop p := by
  rw [List.drop_take]; congr 1; omega
set_option maxHeartbeats 4000000 in
theorem octgetrun_no (bs : List UInt8) (A : Option Addr) (c p : Nat) (w : World) (hA : BytesAt w A bs) (hn : bs.length ≤ 1099511627776) (hp : p ≤ 1099511627776) (h : runAt bs p = none) :
    Calls Try.prog 65 #[.slice A bs.length c, .int .i64 p] w fun e w' => ∃ er : Int, (er == 0) = false ∧ e = .returned (.tuple #[.slice none 0 0, .int .i64 0, .int .i64 er]) ∧ w = w' := by
  have HG := Lib.hid (octget bs A c p 2 w hA (by omega) (by omega) (by omega) (by omega) (by omega))
  clear hA
  by_cases h1 : p + 2 ≤ bs.length
  · have hw : ¬ p + 2 + word bs p 2 ≤ bs.length := by
      intro h2
      unfold runAt at h
      rw [if_pos h2] at h
      cases h
    have hlt : (word bs p 2 : Int) ≤ 65535 := by have := word_lt bs p 2; omega
    rw [get_good (by omega) (by omega) h1] at HG
    dsimp only at HG
    generalize word bs p 2 = n at *
    have hb : ((bs.length : Int) - (p + 2)) < n := by omega
    clear h
    go_enter Try.func65, Try.ntmps65
    go_wp2_with fail
    refine HG.out.mono ?_
    rintro e w1 ⟨rfl, rfl⟩
    go_wp2_with fail
    go_ret3
    exact ⟨_, rfl, rfl, rfl⟩
  · obtain ⟨er, he, hg, _⟩ := get_bad (bs := bs) (p := p) (wd := 2) (by omega) (by omega) h1
    rw [hg] at HG
    dsimp only at HG
    have b0 : (er == 0) = false := by simpa using he
    have b1 : (er != 0) = true := by simpa using he
    clear h hg he
    go_enter Try.func65, Try.ntmps65
    go_wp2_with fail
    refine HG.out.mono ?_
    rintro e w1 ⟨rfl, rfl⟩
    go_wp2_with fail
    go_ret3
    exact ⟨er, b0, rfl, rfl⟩
set_option maxHeartbeats 4000000 in
theorem octgetrun_ok (bs : List UInt8) (A : Option Addr) (c p : Nat) (x : List UInt8) (q : Nat) (w : World) (hA : BytesAt w A bs) (hc : bs.length ≤ c) (hn : bs.length ≤ 1099511627776) (h : runAt bs p = some (x, q)) :
    Calls Try.prog 65 #[.slice A bs.length c, .int .i64 p] w fun e w' => ∃ v, e = .returned (.tuple #[v, .int .i64 q, .int .i64 0]) ∧ w'.ownsRow w.heap.size 5 1 v x.length (bcells x) ∧ Below w.heap.size w w' := by
  unfold runAt at h
  split at h
  · rename_i h2
    obtain ⟨rfl, rfl⟩ : (bs.drop (p + 2)).take (word bs p 2) = x ∧ p + 2 + word bs p 2 = q := by injection h with h; injection h with h3 h4; exact ⟨h3, h4⟩
    clear h
    have HG := Lib.hid (octget bs A c p 2 w hA (by omega) (by omega) (by omega) (by omega) (by omega))
    rw [get_good (by omega) (by omega) (by omega)] at HG
    dsimp only at HG
    have hlt : (word bs p 2 : Int) ≤ 65535 := by have := word_lt bs p 2; omega
    rw [run_mid]
    generalize word bs p 2 = n at *
    obtain ⟨A1, hA1, hs⟩ := slice_mid_src c hA (p + 2) (p + 2 + n) (by omega) h2 hc (by omega)
    have hl : ((bs.take (p + 2 + n)).drop (p + 2)).length = n := by rw [List.length_drop, List.length_take]; omega
    rw [hl]
    have e1 : p + 2 + n - (p + 2) = n := by omega
    rw [e1] at hs hA1
    have e2 : (((p + 2 : Nat)) : Int) = (p : Int) + 2 := by omega
    have e3 : (((p + 2 + n : Nat)) : Int) = (p : Int) + 2 + n := by omega
    rw [e2, e3] at hs
    rw [e3]
    generalize c - (p + 2) = c9 at hs hA1
    generalize (bs.take (p + 2 + n)).drop (p + 2) = x at *
    have HX := Lib.hid hA1
    have HL := Lib.hid hl
    obtain ⟨i0, hi, hi0, hi1, hi2⟩ := info_parts infoByte
    clear hA hA1 hl e1 e2 e3
    go_enter Try.func65, Try.ntmps65
    go_wp2_with fail
    refine HG.out.mono ?_
    rintro e w1 ⟨rfl, rfl⟩
    go_wp2_with (at_builtin; refine wpList_app_any rfl (.const (.slice none 0 0)) (.tmp 34) 31 rfl w.heap.size 5 i0 (.int .u8 0) 1 1 Try.underlying31 hi hi0 hi1 hi2 rfl (by decide) (.slice none 0 0) 0 [] rfl (World.ownsRow_nil _ _ _ _) A1 n c9 (bcells x) rfl HX.out (bcells_one x) ?c3 ?c4 (Nat.le_refl _) ?_)
    case c3 => unfold maxLen; omega
    case c4 => omega
    intro v1 w1 hown1 hg1
    have HB1 : Hid (Below w.heap.size w w1) := (Below.refl _ _).grown hg1 (Nat.le_refl _) (by simp [Value.ownBlock])
    try simp only [Nat.zero_add, List.nil_append] at hown1
    have HO1 := Lib.hid hown1
    clear hown1 hg1
    go_wp2_with fail
    go_ret3
    exact ⟨_, rfl, HO1.out, HB1.out⟩
  · cases h
end Go.Proofs.Ytjhopgmionpkoaa
namespace Go.Proofs.Ytjhopgmionpkoaa
set_option maxRecDepth 20000
open Go.RowKit Mem

set_option maxHeartbeats 4000000 in
theorem refgetrun_no (bs : List UInt8) (A : Option Addr) (c p : Nat) (w : World) (hA : BytesAt w A bs) (hn : bs.length ≤ 1099511627776) (hp : p ≤ 1099511627776) (h : runAt bs p = none) :
    Calls Try.prog 70 #[.slice A bs.length c, .int .i64 p] w fun e w' => ∃ er : Int, (er == 0) = false ∧ e = .returned (.tuple #[.slice none 0 0, .int .i64 0, .int .i64 er]) ∧ ∃ n, w' = w.drewN n := by
  by_cases h0 : bs.length < p
  · clear hA h
    have h0' : (bs.length : Int) < p := by omega
    have d0 : decide ((p : Int) < 0) = false := by simp
    go_enter Try.func70, Try.ntmps70
    go_wp2_with fail
    go_ret3
    exact ⟨1, by decide, rfl, 0, rfl⟩
  · by_cases h1 : p + 2 ≤ bs.length
    · have hw : ¬ p + 2 + word bs p 2 ≤ bs.length := by
        intro h2
        unfold runAt at h
        rw [if_pos h2] at h
        cases h
      obtain ⟨b, off, rfl, c0⟩ := hA p (by omega)
      obtain ⟨b', off', he, c1⟩ := hA (p + 1) (by omega)
      simp only [Option.some.injEq, Addr.mk.injEq, and_true] at he
      obtain ⟨rfl, rfl⟩ := he
      have h2 := word_two h1
      have hb0 : ((bs[p]'(by omega)).toNat : Int) ≤ 255 := by have := (bs[p]'(by omega)).toNat_lt; omega
      have hb1 : ((bs[p + 1]'(by omega)).toNat : Int) ≤ 255 := by have := (bs[p + 1]'(by omega)).toNat_lt; omega
      have hbig : (bs.length : Int) - p - 2 < ((bs[p]'(by omega)).toNat : Int) + 256 * ((bs[p + 1]'(by omega)).toNat : Int) := by omega
      have r0 : (p : Int) < bs.length := by omega
      have r1 : (p : Int) + 1 < bs.length := by omega
      have r2 : (0 : Int) ≤ p := by omega
      have r3 : (0 : Int) ≤ (p : Int) + 1 := by omega
      have r4 : ¬ ((bs.length : Int) - p < 2) := by omega
      have w1 : IntKind.i64.wrap ((p : Int) + 1) = (p : Int) + 1 := IntWalk.i64_in _ (by omega)
      have t1 : ((p : Int) + 1).toNat = p + 1 := by omega
      clear h hw hA h2
      generalize (bs[p]'_).toNat = x0 at *
      generalize (bs[p + 1]'_).toNat = x1 at *
      have w2 : IntKind.i64.wrap (256 * (x1 : Int)) = 256 * (x1 : Int) := IntWalk.i64_in _ (by omega)
      have w3 : IntKind.i64.wrap ((x0 : Int) + 256 * (x1 : Int)) = (x0 : Int) + 256 * (x1 : Int) := IntWalk.i64_in _ (by omega)
      go_enter Try.func70, Try.ntmps70
      go_wp2_with fail
      go_quiet (fail)
      clear w1 w2 w3 t1
      go_wp2_with fail
      go_ret3
      exact ⟨2, by decide, rfl, _, rfl⟩
    · clear hA h
      have r4 : (bs.length : Int) - p < 2 := by omega
      have d0 : decide ((p : Int) < 0) = false := by simp
      have d1 : ¬ ((bs.length : Int) < p) := by omega
      go_enter Try.func70, Try.ntmps70
      go_wp2_with fail
      go_ret3
      exact ⟨2, by decide, rfl, 0, rfl⟩
set_option maxHeartbeats 4000000 in
theorem refgetrun_ok (bs : List UInt8) (A : Option Addr) (c p : Nat) (x : List UInt8) (q : Nat) (w : World) (hA : BytesAt w A bs) (hc : bs.length ≤ c) (hn : bs.length ≤ 1099511627776) (h : runAt bs p = some (x, q)) :
    Calls Try.prog 70 #[.slice A bs.length c, .int .i64 p] w fun e w' => ∃ v, e = .returned (.tuple #[v, .int .i64 q, .int .i64 0]) ∧ w'.ownsRow w.heap.size 5 1 v x.length (bcells x) ∧ Below w.heap.size w w' := by
  unfold runAt at h
  split at h
  · rename_i h9
    obtain ⟨rfl, rfl⟩ : (bs.drop (p + 2)).take (word bs p 2) = x ∧ p + 2 + word bs p 2 = q := by injection h with h; injection h with h3 h4; exact ⟨h3, h4⟩
    clear h
    have h1 : p + 2 ≤ bs.length := by omega
    have h2 := word_two h1
    have hlt : (word bs p 2 : Int) ≤ 65535 := by have := word_lt bs p 2; omega
    rw [run_mid]
    obtain ⟨A1, hA1, hs⟩ := slice_mid_src c hA (p + 2) (p + 2 + word bs p 2) (by omega) h9 hc (by omega)
    obtain ⟨b, off, rfl, c0⟩ := hA p (by omega)
    obtain ⟨b', off', he, c1⟩ := hA (p + 1) (by omega)
    simp only [Option.some.injEq, Addr.mk.injEq, and_true] at he
    obtain ⟨rfl, rfl⟩ := he
    have hb0 : ((bs[p]'(by omega)).toNat : Int) ≤ 255 := by have := (bs[p]'(by omega)).toNat_lt; omega
    have hb1 : ((bs[p + 1]'(by omega)).toNat : Int) ≤ 255 := by have := (bs[p + 1]'(by omega)).toNat_lt; omega
    generalize (bs[p]'_).toNat = x0 at *
    generalize (bs[p + 1]'_).toNat = x1 at *
    generalize hwn : word bs p 2 = n at *
    have hl : ((bs.take (p + 2 + n)).drop (p + 2)).length = n := by rw [List.length_drop, List.length_take]; omega
    rw [hl]
    have e1 : p + 2 + n - (p + 2) = n := by omega
    rw [e1] at hs hA1
    have e2 : (((p + 2 : Nat)) : Int) = (p : Int) + 2 := by omega
    have e3 : (((p + 2 + n : Nat)) : Int) = (p : Int) + 2 + n := by omega
    rw [e2, e3] at hs
    rw [e3]
    generalize c - (p + 2) = c9 at hs hA1
    generalize (bs.take (p + 2 + n)).drop (p + 2) = x at *
    have HJ := Lib.hid (fun W h => refjoin [] x none A1 0 c9 W ⟨by simp [bcells], fun _ => ⟨rfl, rfl⟩, fun ad e => (by cases e)⟩ h (by simp; omega))
    rw [hl] at HJ
    simp only [List.length_nil, List.nil_append, Nat.zero_add] at HJ
    have HX : Hid (BSrc w A1 c9 x) := by unfold RowKit.Hid BSrc; rw [hl]; exact hA1
    rw [h2] at hs ⊢
    have hn4 : (p : Int) + 2 + ((x0 : Int) + 256 * (x1 : Int)) ≤ bs.length := by omega
    have hn5 : ¬ ((bs.length : Int) - p - 2 < (x0 : Int) + 256 * (x1 : Int)) := by omega
    have r0 : (p : Int) < bs.length := by omega
    have r1 : (p : Int) + 1 < bs.length := by omega
    have r2 : (0 : Int) ≤ p := by omega
    have r3 : (0 : Int) ≤ (p : Int) + 1 := by omega
    have r4 : ¬ ((bs.length : Int) - p < 2) := by omega
    have w1 : IntKind.i64.wrap ((p : Int) + 1) = (p : Int) + 1 := IntWalk.i64_in _ (by omega)
    have t1 : ((p : Int) + 1).toNat = p + 1 := by omega
    have w2 : IntKind.i64.wrap (256 * (x1 : Int)) = 256 * (x1 : Int) := IntWalk.i64_in _ (by omega)
    have w3 : IntKind.i64.wrap ((x0 : Int) + 256 * (x1 : Int)) = (x0 : Int) + 256 * (x1 : Int) := IntWalk.i64_in _ (by omega)
    have HS := Lib.hid hs
    clear hA hA1 e1 e2 e3 hl h2 hwn hs hlt
    go_enter Try.func70, Try.ntmps70
    go_wp2_with fail
    go_quiet (fail)
    clear w1 w2 w3 t1
    have hs := HS.out
    go_wp2_with fail
    clear hs
    refine (HJ.out _ (HX.out.below (below_drewN (Below.refl _ _) _) (Nat.le_refl _))).mono ?_
    rintro e w1 ⟨v1, rfl, hown1, hb1⟩
    have HO1 := Lib.hid hown1
    have HB1 := Lib.hid hb1
    clear hown1 hb1
    go_wp2_with fail
    go_ret3
    exact ⟨_, rfl, HO1.out, (below_drewN (Below.refl _ _) _).trans HB1.out⟩
  · cases h
end Go.Proofs.Ytjhopgmionpkoaa
namespace Go.Proofs.Ytjhopgmionpkoaa
set_option maxRecDepth 20000
open Go.RowKit Mem

def ucells (l : List Nat) : List Value := l.map fun (u : Nat) => .int .u32 (u : Int)
def bytes4 : List Nat → Ia.Bs
  | [] => []
  | u :: r => Ia.le 4 u ++ bytes4 r
theorem bytes4_append : ∀ a b, bytes4 (a ++ b) = bytes4 a ++ bytes4 b
  | [], _ => rfl
  | u :: r, b => by simp only [List.cons_append, bytes4, bytes4_append r b, List.append_assoc]
theorem bytes4_length : ∀ l, (bytes4 l).length = 4 * l.length
  | [] => rfl
  | u :: r => by simp only [bytes4, List.length_append, Ia.le_length, bytes4_length r, List.length_cons]; omega
theorem ucells_at (l : List Nat) (k : Nat) (h : k < l.length) : (ucells l)[k]? = some (.int .u32 ((l[k]'h : Nat) : Int)) := by
  unfold ucells; rw [List.getElem?_map, List.getElem?_eq_getElem h]; rfl
theorem ucells_length (l : List Nat) : (ucells l).length = l.length := List.length_map ..
theorem le4_cells (u : Nat) : bcells (Ia.le 4 u) = [.int .u8 ((u : Int) % 256), .int .u8 ((u : Int) / 256 % 256), .int .u8 ((u : Int) / 65536 % 256), .int .u8 ((u : Int) / 16777216 % 256)] := by
  simp only [Ia.le, bcells, List.map_cons, List.map_nil, UInt8.toNat_ofNat', Nat.div_div_eq_div_mul]
  simp
/-- a plain address of a source -/
theorem src_spot {w : World} {A : Option Addr} {m c size : Nat} {news : List Value} (h : Src w A m c news size) (h0 : 0 < news.length) : ∃ b off, A = some ⟨b, off, none⟩ := by
  rcases A with _ | ⟨b, off, sp⟩
  · have := (h.none rfl).1; have := h.len; simp_all
  · have hu : news[0]? = some (news[0]'h0) := List.getElem?_eq_getElem h0
    have hsp : sp = none := by
      have := World.cell?_spot (h.some _ rfl 0 _ hu)
      simpa [Addr.add] using this
    subst hsp
    exact ⟨b, off, rfl⟩
theorem src_at {w : World} {b off : Nat} {m c size : Nat} {news : List Value} (h : Src w (some ⟨b, off, none⟩) m c news size) {k : Nat} {u : Value} (hu : news[k]? = some u) : w.cell? ⟨b, off + k, none⟩ = some u := by
  have := h.some _ rfl k u hu
  rw [add_plain] at this
  exact this
set_option maxHeartbeats 4000000 in
theorem octbytes (us : List Nat) (A : Option Addr) (c : Nat) (w : World) (hA : Src w A us.length c (ucells us) 1) (hn : us.length ≤ 1000000) (hu : ∀ u ∈ us, u < 4294967296) :
    Calls Try.prog 50 #[.slice A us.length c] w fun e w' => ∃ v, e = .returned v ∧ w'.ownsRow w.heap.size 5 1 v (4 * us.length) (bcells (bytes4 us)) ∧ Below w.heap.size w w' := by
  have HA := Lib.hid hA
  have HU := Lib.hid hu
  clear hA hu
  obtain ⟨Z, hZ, hmk⟩ := make_bytes 0 (4 * us.length) (by omega)
  have hmk2 : ∀ wx : World, (Instr.makeSlice 31 (.int .i64 0) (.int .i64 (4 * (us.length : Int)))).run Try.prog wx = .ok (.slice (some ⟨wx.heap.size, 0, none⟩) 0 (4 * us.length)) (wx.alloc (.cells Z.toArray 5)) := by
    intro wx
    have := hmk wx
    simpa using this
  clear hmk
  have HZ := Lib.hid hZ
  clear hZ
  have hb0 : ∀ o, Below w.heap.size w (w.alloc o) := fun o => (Below.refl _ _).alloc (Nat.le_refl _) o
  have HB0 := Lib.hid hb0
  clear hb0
  obtain ⟨i0, hi, hi0, hi1, hi2⟩ := info_parts infoByte
  go_enter Try.func50, Try.ntmps50
  go_wp2_with fail
  clear hmk2
  have hown : (w.alloc (.cells Z.toArray 5)).ownsRow w.heap.size 5 1 (.slice (some ⟨w.heap.size, 0, none⟩) 0 (4 * us.length)) 0 (bcells (bytes4 (us.take 0))) := by
    refine ⟨by simp [bcells, bytes4], .inr ⟨w.heap.size, 4 * us.length, _, rfl, Nat.le_refl _, heap_alloc_new _ _, Nat.zero_le _, by unfold maxLen; omega, ?_, ?_⟩⟩
    · have := HZ.out; simp; omega
    · simp [bcells, bytes4]
  have HO := Lib.hid hown
  clear hown
  go_loopw [3, 12] (fun v i wr => ∃ k : Nat, k ≤ us.length ∧ i = .int .i64 k ∧ Hid (wr.ownsRow w.heap.size 5 1 v (4 * k) (bcells (bytes4 (us.take k)))) ∧ Hid (Below w.heap.size w wr)) (fun _ i _ => us.length - (intOf i).toNat)
  case atStart => exact ⟨0, Nat.zero_le _, rfl, HO, HB0.out _⟩
  case round =>
    obtain ⟨k, hk, rfl, hO, hB⟩ := hrel
    by_cases hlt : k < us.length
    · obtain ⟨b, off, rfl⟩ := src_spot HA.out (by rw [ucells_length]; omega)
      have ck : wr.cell? ⟨b, off + k, none⟩ = some (.int .u32 ((us[k]'hlt : Nat) : Int)) := src_at (HA.out.below hB.out (Nat.le_refl _)) (ucells_at us k hlt)
      have hux : ((us[k]'hlt : Nat) : Int) ≤ 4294967295 := by have := HU.out _ (List.getElem_mem hlt); omega
      have HC : Hid (bcells (bytes4 (us.take (k + 1))) = bcells (bytes4 (us.take k)) ++ [.int .u8 (((us[k]'hlt : Nat) : Int) % 256), .int .u8 (((us[k]'hlt : Nat) : Int) / 256 % 256), .int .u8 (((us[k]'hlt : Nat) : Int) / 65536 % 256), .int .u8 (((us[k]'hlt : Nat) : Int) / 16777216)]) := by
        unfold RowKit.Hid
        rw [List.take_succ_eq_append_getElem hlt, bytes4_append, bcells_append, show ((us[k]'hlt : Nat) : Int) / 16777216 = ((us[k]'hlt : Nat) : Int) / 16777216 % 256 by omega, ← le4_cells]
        simp [bytes4]
      generalize us[k]'hlt = x at *
      have hbz := hB.out.size
      go_wp2_with (at_builtin; refine wpList_append_own _ rfl _ _ 31 rfl w.heap.size 5 i0 (.int .u8 0) 1 1 Try.underlying31 hi hi0 hi1 hi2 rfl (by decide) _ _ _ rfl (hO.out.alloc _) ⟨wr.heap.size, 0, none⟩ 4 4 [.int .u8 ((x : Int) % 256), .int .u8 ((x : Int) / 256 % 256), .int .u8 ((x : Int) / 65536 % 256), .int .u8 ((x : Int) / 16777216)] rfl rfl ?c1 ?c2 ?c3 ?c4 ?c5 ?_)
      case c1 => exact cells_new _ _ _ _ rfl
      case c2 => intro u hu; simp only [List.mem_cons, List.not_mem_nil, or_false] at hu; rcases hu with rfl | rfl | rfl | rfl <;> rfl
      case c3 => unfold maxLen; omega
      case c4 => omega
      case c5 => simp; omega
      intro v' w3 hown3 hgrow _
      have HB3 : Hid (Below w.heap.size w w3) := (hB.out.alloc hB.out.size _).grown hgrow (by simp; omega) (fun b hb => (hO.out.lt b hb).1)
      rw [← HC.out] at hown3
      have HO3 := Lib.hid hown3
      clear hown3 hgrow
      go_wp2_with fail
      go_roundw
      case rel => exact ⟨k + 1, by omega, by go_num, HO3, HB3⟩
      case measure => simp [intOf]; omega
    · obtain rfl : k = us.length := by omega
      have hO2 := hO.out
      rw [List.take_length] at hO2
      have HO2 := Lib.hid hO2
      clear hO2 hO
      go_wp2_with fail
      go_ret
      exact ⟨_, rfl, HO2.out, hB.out⟩
end Go.Proofs.Ytjhopgmionpkoaa
namespace Go.Proofs.Ytjhopgmionpkoaa
set_option maxRecDepth 20000
open Go.RowKit Mem

def wordsN : Ia.Bs → List Nat
  | a :: b :: c :: d :: r => Ia.unle [a, b, c, d] :: wordsN r
  | _ => []
/-- the words behind k bytes of the word i -/
def wf (bs : Ia.Bs) (i k j : Nat) : Nat := if j < i then Ia.unle ((bs.drop (4 * j)).take 4) else if j = i then Ia.unle ((bs.drop (4 * i)).take k) else 0
def wfL (bs : Ia.Bs) (n i k : Nat) : List Nat := (List.range n).map (wf bs i k)
theorem wfL_at (bs : Ia.Bs) (n i k j : Nat) (h : j < n) : (wfL bs n i k)[j]? = some (wf bs i k j) := by
  unfold wfL; rw [List.getElem?_map, List.getElem?_range h]; rfl
theorem wfL_length (bs : Ia.Bs) (n i k : Nat) : (wfL bs n i k).length = n := by unfold wfL; simp
theorem wfL_next (bs : Ia.Bs) (n i : Nat) : wfL bs n i 4 = wfL bs n (i + 1) 0 := by
  unfold wfL
  congr 1
  funext j
  unfold wf
  by_cases h1 : j < i
  · rw [if_pos h1, if_pos (by omega)]
  · by_cases h2 : j = i
    · subst h2; rw [if_neg h1, if_pos rfl, if_pos (by omega)]
    · rw [if_neg h1, if_neg h2, if_neg (by omega)]
      split
      · simp [Ia.unle]
      · rfl
theorem wfL_set (bs : Ia.Bs) (n i k : Nat) : (ucells (wfL bs n i k)).set i (.int .u32 ((Ia.unle ((bs.drop (4 * i)).take (k + 1)) : Nat) : Int)) = ucells (wfL bs n i (k + 1)) := by
  apply List.ext_getElem?
  intro j
  by_cases hj : j < n
  · have h2 : (ucells (wfL bs n i (k + 1)))[j]? = some (.int .u32 ((wf bs i (k + 1) j : Nat) : Int)) := by unfold ucells; rw [List.getElem?_map, wfL_at _ _ _ _ _ hj]; rfl
    have h1 : (ucells (wfL bs n i k))[j]? = some (.int .u32 ((wf bs i k j : Nat) : Int)) := by unfold ucells; rw [List.getElem?_map, wfL_at _ _ _ _ _ hj]; rfl
    by_cases e : i = j
    · subst e
      rw [List.getElem?_set_self (by rw [ucells_length, wfL_length]; exact hj), h2]
      unfold wf
      rw [if_neg (by omega), if_pos rfl]
    · rw [List.getElem?_set_ne e, h1, h2]
      unfold wf
      split
      · rfl
      · rw [if_neg (fun h => e h.symm), if_neg (fun h => e h.symm)]
  · rw [List.getElem?_eq_none (by rw [List.length_set, ucells_length, wfL_length]; omega), List.getElem?_eq_none (by rw [ucells_length, wfL_length]; omega)]
theorem wordsN_len : ∀ (n : Nat) (bs : Ia.Bs), bs.length = 4 * n → (wordsN bs).length = n
  | 0, bs, h => by have := List.eq_nil_of_length_eq_zero (by omega : bs.length = 0); subst this; rfl
  | n + 1, [], h => by simp at h
  | n + 1, [_], h => by simp at h; omega
  | n + 1, [_, _], h => by simp at h; omega
  | n + 1, [_, _, _], h => by simp at h; omega
  | n + 1, a :: b :: c :: d :: r, h => by
    simp only [wordsN, List.length_cons] at h ⊢
    rw [wordsN_len n r (by omega)]
theorem wordsN_at : ∀ (n : Nat) (bs : Ia.Bs), bs.length = 4 * n → ∀ j, j < n → (wordsN bs)[j]? = some (Ia.unle ((bs.drop (4 * j)).take 4))
  | 0, bs, h, j, hj => by omega
  | n + 1, [], h, j, hj => by simp at h
  | n + 1, [_], h, j, hj => by simp at h; omega
  | n + 1, [_, _], h, j, hj => by simp at h; omega
  | n + 1, [_, _, _], h, j, hj => by simp at h; omega
  | n + 1, a :: b :: c :: d :: r, h, 0, hj => by simp [wordsN]
  | n + 1, a :: b :: c :: d :: r, h, j + 1, hj => by
    simp only [List.length_cons] at h
    have := wordsN_at n r (by omega) j (by omega)
    simp only [wordsN, List.getElem?_cons_succ]
    rw [this]
    congr 2
theorem wfL_all (bs : Ia.Bs) (n : Nat) (h : bs.length = 4 * n) : wfL bs n n 0 = wordsN bs := by
  apply List.ext_getElem?
  intro j
  by_cases hj : j < n
  · rw [wfL_at _ _ _ _ _ hj, wordsN_at n bs h j hj]
    unfold wf
    rw [if_pos hj]
  · rw [List.getElem?_eq_none (by rw [wfL_length]; omega), List.getElem?_eq_none (by rw [wordsN_len n bs h]; omega)]
theorem or_place32 (U c k : Nat) (hk : k < 4) (hU : U < 256 ^ k) (hc : c < 256) : bits .or .u32 (U : Int) (IntKind.u32.wrap ((c : Int) * 2 ^ (8 * k))) = ((U + c * 256 ^ k : Nat) : Int) := by
  have e : (256 : Nat) ^ k = 2 ^ (8 * k) := by rw [Nat.pow_mul]
  have hcast : ((c : Int) * 2 ^ (8 * k)) = ((c * 2 ^ (8 * k) : Nat) : Int) := by simp
  have h1 : (2 : Nat) ^ (8 * k) ≤ 2 ^ 24 := Nat.pow_le_pow_right (by omega) (by omega)
  have h2 : c * 2 ^ (8 * k) ≤ 255 * 2 ^ 24 := Nat.mul_le_mul (by omega) h1
  rw [e] at hU ⊢
  have hw : IntKind.u32.wrap ((c * 2 ^ (8 * k) : Nat) : Int) = ((c * 2 ^ (8 * k) : Nat) : Int) := by
    generalize c * 2 ^ (8 * k) = X at h2 ⊢
    simp only [IntKind.wrap_u32]
    omega
  have h3 : (2 : Nat) ^ (8 * k) ≤ 16777216 := Nat.le_trans h1 (by decide)
  rw [hcast, hw, u32_or_nat _ _ (by omega) (by omega), Nat.or_comm, nat_join (8 * k) _ _ (by simp) hU, Nat.add_comm]
theorem infoU32b : (Try.prog.info? 22).map (fun i => (i.zero, i.size, i.bytes)) = some (some (.int .u32 0), 1, 4) := by kernel_rfl
theorem make_words (n : Nat) (hm : n ≤ 1000000) : ∀ wx : World,
    (Instr.makeSlice 86 (.int .i64 (n : Int)) (.int .i64 (n : Int))).run Try.prog wx = .ok (.slice (some ⟨wx.heap.size, 0, none⟩) n n) (wx.alloc (.cells (madeCells #[.int .u32 0] n) 22)) := by
  intro wx
  obtain ⟨i, hi, hz, hs, hb⟩ := info_parts infoU32b
  have := run_make (P := Try.prog) wx 86 22 i (.int .u32 0) Try.underlying86 hi hz .i64 .i64 (n : Int) (n : Int) (by omega) (by omega) (by rw [hb]; omega) (by omega)
  rw [this, hs]
  have e1 : ((n : Int)).toNat = n := by omega
  rw [e1, Nat.mul_one]
  rfl
theorem made_words (bs : Ia.Bs) (n : Nat) : (madeCells #[.int .u32 0] n).toList = ucells (wfL bs n 0 0) := by
  apply List.ext_getElem?
  intro j
  by_cases hj : j < n
  · have h2 : (ucells (wfL bs n 0 0))[j]? = some (.int .u32 ((wf bs 0 0 j : Nat) : Int)) := by unfold ucells; rw [List.getElem?_map, wfL_at _ _ _ _ _ hj]; rfl
    have h3 : wf bs 0 0 j = 0 := by unfold wf; rw [if_neg (by omega)]; split <;> simp [Ia.unle]
    rw [h2, h3]
    unfold madeCells
    rw [Array.getElem?_toList, Array.getElem?_map, Array.getElem?_range, if_pos hj]
    simp [Nat.mod_one]
  · rw [List.getElem?_eq_none (by rw [Array.length_toList, size_madeCells]; omega), List.getElem?_eq_none (by rw [ucells_length, wfL_length]; omega)]
set_option maxHeartbeats 8000000 in
theorem octwords (bs : Ia.Bs) (n : Nat) (A : Option Addr) (c : Nat) (w : World) (hA : BytesAt w A bs) (hl : bs.length = 4 * n) (hn : n ≤ 100000) :
    Calls Try.prog 66 #[.slice A bs.length c] w fun e w' => ∃ v, e = .returned v ∧ w'.ownsRow w.heap.size 22 1 v n (ucells (wordsN bs)) ∧ Below w.heap.size w w' := by
  have HA := Lib.hid hA
  have HL := Lib.hid hl
  rw [hl]
  have HW := Lib.hid (wfL_all bs n hl)
  clear hA hl
  have hmk := make_words n (by omega)
  have hdv : (4 * (n : Int) + 3) / 4 = n := by omega
  go_enter Try.func66, Try.ntmps66
  go_wp2_with fail
  clear hmk hdv
  have hown : (w.alloc (.cells (madeCells #[.int .u32 0] n) 22)).ownsRow w.heap.size 22 1 (.slice (some ⟨w.heap.size, 0, none⟩) n n) n (ucells (wfL bs n 0 0)) := by
    refine ⟨by rw [ucells_length, wfL_length, Nat.mul_one], .inr ⟨w.heap.size, n, _, rfl, Nat.le_refl _, heap_alloc_new _ _, Nat.le_refl _, by unfold maxLen; omega, ?_, ?_⟩⟩
    · rw [size_madeCells, Nat.mul_one]
    · rw [← made_words bs n]
      exact List.take_of_length_le (by rw [Array.length_toList, size_madeCells, Nat.mul_one]; exact Nat.le_refl _)
  obtain ⟨W0, hW0⟩ : ∃ W0, W0 = w.alloc (.cells (madeCells #[.int .u32 0] n) 22) := ⟨_, rfl⟩
  rw [← hW0] at hown ⊢
  have HO := Lib.hid hown
  have HB : Hid (Below w.heap.size w W0) := by unfold RowKit.Hid; rw [hW0]; exact (Below.refl _ _).alloc (Nat.le_refl _) _
  clear hown hW0
  go_loopg [14] n (fun G i wr => ∃ j : Nat, j ≤ n ∧ G = n - j ∧ i = .int .i64 j ∧ Hid (wr.ownsRow w.heap.size 22 1 (.slice (some ⟨w.heap.size, 0, none⟩) n n) n (ucells (wfL bs n j 0))) ∧ Hid (Below w.heap.size w wr))
  case atStart => exact ⟨0, Nat.zero_le _, rfl, rfl, HO, HB⟩
  case round =>
    obtain ⟨j, hj, rfl, rfl, hO, hB⟩ := hrel
    by_cases hlt : j < n
    · go_wp2_with fail
      obtain ⟨wo, rfl⟩ : ∃ wo : World, wo = wr := ⟨_, rfl⟩
      go_loopg [17] 4 (fun G k wr => ∃ t : Nat, t ≤ 4 ∧ G = 4 - t ∧ k = .int .i64 t ∧ Hid (wr.ownsRow w.heap.size 22 1 (.slice (some ⟨w.heap.size, 0, none⟩) n n) n (ucells (wfL bs n j t))) ∧ Hid (Below w.heap.size w wr))
      case atStart => exact ⟨0, by omega, rfl, rfl, hO, hB⟩
      case round =>
        obtain ⟨t, ht, rfl, rfl, hO2, hB2⟩ := hrel
        by_cases hlt2 : t < 4
        · have hjt : 4 * j + t < bs.length := by have := HL.out; omega
          obtain ⟨b, off, rfl, c0⟩ := HA.out.below hB2.out (Nat.le_refl _) (4 * j + t) hjt
          have hcb : ((bs[4 * j + t]'hjt).toNat : Int) ≤ 255 := by have := (bs[4 * j + t]'hjt).toNat_lt; omega
          have HU := Lib.hid (Ia.unle_lt ((bs.drop (4 * j)).take t))
          have hS := unle_snoc ((bs.drop (4 * j)).take t) (bs[4 * j + t]'hjt)
          rw [← take_drop_snoc bs (4 * j) t hjt] at hS
          have hlk : ((bs.drop (4 * j)).take t).length = t := by rw [List.length_take, List.length_drop]; omega
          rw [hlk] at hS HU
          have HS := Lib.hid hS
          have HP := Lib.hid (or_place32 _ _ t hlt2 HU.out (bs[4 * j + t]'hjt).toNat_lt)
          have hcell := hO2.out.cells (g := w.heap.size) rfl j (.int .u32 ((Ia.unle ((bs.drop (4 * j)).take t) : Nat) : Int)) (by
            unfold ucells; rw [List.getElem?_map, wfL_at _ _ _ _ _ hlt]
            unfold wf
            rw [if_neg (by omega), if_pos rfl]; rfl)
          rw [add_at] at hcell
          have hfr := hO2.out.frozenAt j
          obtain ⟨hst, hgr⟩ := hO2.out.stored j (.int .u32 ((Ia.unle ((bs.drop (4 * j)).take (t + 1)) : Nat) : Int))
          rw [wfL_set] at hst
          have HST := Lib.hid hst
          have HBB : Hid (Below w.heap.size w (wr.setCell ⟨w.heap.size, j, none⟩ (.int .u32 ((Ia.unle ((bs.drop (4 * j)).take (t + 1)) : Nat) : Int)))) := hB2.out.setCell (by dsimp only; omega) _
          have e : ((Ia.unle ((bs.drop (4 * j)).take (t + 1)) : Nat) : Int) = bits .or .u32 ((Ia.unle ((bs.drop (4 * j)).take t) : Nat) : Int) (((bs[4 * j + t]'hjt).toNat : Int) * 2 ^ (8 * t) % 4294967296) := by
            rw [HS.out, ← HP.out, IntKind.wrap_u32]
          rw [e] at HST HBB
          clear hS hlk HU hst hgr e
          go_wp2_with fail
          go_roundg (4 - (t + 1))
          case measure => omega
          case rel => exact ⟨t + 1, by omega, rfl, by go_num, HST, HBB⟩
        · obtain rfl : t = 4 := by omega
          rw [wfL_next] at hO2
          go_wp2_with fail
          go_roundg (n - (j + 1))
          case measure => omega
          case rel => exact ⟨j + 1, by omega, rfl, by go_num, hO2, hB2⟩
    · obtain rfl : j = n := by omega
      have ho := hO.out
      rw [HW.out] at ho
      have HO9 := Lib.hid ho
      clear ho hO
      go_wp2_with fail
      go_ret
      exact ⟨_, rfl, HO9.out, hB.out⟩
end Go.Proofs.Ytjhopgmionpkoaa
