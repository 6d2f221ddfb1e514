/-
  Images in plain Lean: what is wrong of one, the bytes that it is laid down in, and what bytes say.
  The small functions of image: the frame of Move, a code with a bound.
  The last statement of image.Check, whatever the order.
  What is wrong of an image, by the package image.
-/
import Derived.Test.YtjhopgmionpkoaaImIsa
import Derived.Test.YtjhopgmionpkoaaJu2
import Derived.Test.YtjhopgmionpkoaaOct1
import Derived.Test.YtjhopgmionpkoaaJu1
import Derived.Test.YtjhopgmionpkoaaRgn
namespace Go.Proofs.Ytjhopgmionpkoaa
set_option maxRecDepth 20000
open Go.RowKit Mem

structure Im where
  ver : Int
  frm : Int
  el : Int
  fr : Ju.Fr
  first : List Int
  step : List Ia.Ins
  move : List Ia.Ins
  sf : Int
  mf : Int
def Im.zero : Im := ⟨0, 0, 0, ⟨0, 0, 0, 0, 0⟩, [], [], [], 0, 0⟩
/-- what is wrong of a code with a bound -/
def bnd (l : List Ia.Ins) (f : Ju.Fr) (fuel : Int) : Int := if (Ju.check f l).er = 0 then (if (Ju.check f l).fu = fuel then 0 else 14) else (Ju.check f l).er
def mvFr (m : Im) : Ju.Fr := ⟨0, m.el, m.fr.nw, 0, 0⟩
/-- what is wrong of an image -/
def chk (m : Im) : Int :=
  if m.ver = 0 ∨ m.ver ≤ m.frm ∨ m.el < 0 ∨ 16 < m.el then 1
  else if m.fr.ol ≠ m.fr.nw ∨ (m.first.length : Int) ≠ m.fr.nw then 1
  else if m.frm = 0 ∧ (0 < m.el ∨ 0 < m.move.length) then 1
  else if bnd m.step m.fr m.sf ≠ 0 then bnd m.step m.fr m.sf
  else bnd m.move (mvFr m) m.mf
def firstB (l : List Int) : Ia.Bs := bytes4 (l.map Ia.plainN)
def numsB (m : Im) : Ia.Bs :=
  Ia.le 4 m.ver.toNat ++ (Ia.le 4 m.frm.toNat ++ (Ia.le 1 m.el.toNat ++ (Ia.le 1 m.fr.sl.toNat ++ (Ia.le 1 m.fr.nw.toNat ++ (Ia.le 1 m.fr.is.toNat ++ (Ia.le 1 m.fr.os.toNat ++ (Ia.le 2 m.sf.toNat ++ Ia.le 2 m.mf.toNat)))))))
def magic : Ia.Bs := [77, 73, 68, 83]
/-- the bytes of an image -/
def laidB (m : Im) : Ia.Bs := magic ++ (numsB m ++ (runB (firstB m.first) ++ (runB (Ia.encode m.step) ++ runB (Ia.encode m.move))))
/-- the numbers of an image as it came in -/
structure ImOk (m : Im) : Prop where
  ver : 0 ≤ m.ver ∧ m.ver < 4294967296
  frm : 0 ≤ m.frm ∧ m.frm < 4294967296
  first : ∀ n ∈ m.first, -2147483648 ≤ n ∧ n ≤ 2147483647
  step : ∀ i ∈ m.step, InsOk i
  move : ∀ i ∈ m.move, InsOk i
/-- all numbers have room -/
structure Fits (m : Im) : Prop extends ImOk m where
  el : 0 ≤ m.el ∧ m.el < 256
  sl : 0 ≤ m.fr.sl ∧ m.fr.sl < 256
  nw : 0 ≤ m.fr.nw ∧ m.fr.nw < 256
  is : 0 ≤ m.fr.is ∧ m.fr.is < 256
  os : 0 ≤ m.fr.os ∧ m.fr.os < 256
  sf : 0 ≤ m.sf ∧ m.sf < 65536
  mf : 0 ≤ m.mf ∧ m.mf < 65536
  fl : 4 * m.first.length < 65536
  se : Ia.wrong m.step = 0 ∧ m.step.length ≤ 600
  me : Ia.wrong m.move = 0 ∧ m.move.length ≤ 600
theorem check_good {f : Ju.Fr} {l : List Ia.Ins} (h : (Ju.check f l).er = 0) : Ju.okFr f = true ∧ l.length ≤ 600 ∧ Ia.wrong l = 0 ∧ 0 ≤ (Ju.check f l).fu ∧ (Ju.check f l).fu ≤ 600 := by
  by_cases hok : Ju.okFr f = true
  · by_cases hb : 600 < l.length
    · exfalso
      unfold Ju.check at h
      rw [if_neg (by rw [hok]; decide), if_pos hb] at h
      exact absurd h (by decide)
    · rw [check_run hok hb] at h ⊢
      have key : ∀ (r : List Ia.Ins) (k : Nat) (s : Ju.St) (top : Int), k + r.length = l.length → StOk l.length k s → (Ju.run f l.length r k s top).er = 0 → Ia.wrong r = 0 ∧ 0 ≤ (Ju.run f l.length r k s top).fu ∧ (Ju.run f l.length r k s top).fu ≤ l.length := by
        intro r
        induction r with
        | nil =>
          intro k s top hk hs he
          refine ⟨rfl, ?_⟩
          simp only [Ju.run] at he ⊢
          cases hsk : s k with
          | none => simp
          | some v =>
            obtain ⟨d, fu⟩ := v
            rw [hsk] at he
            dsimp only at he ⊢
            have := hs.1 k d fu hsk
            simp only [List.length_nil, Nat.add_zero] at hk
            split
            · dsimp only; omega
            · dsimp only; omega
        | cons i r ih =>
          intro k s top hk hs he
          simp only [List.length_cons] at hk
          simp only [Ju.run] at he ⊢
          by_cases h0 : (Ju.step f l.length i k s).1 ≠ 0
          · rw [if_pos h0] at he; exact absurd he h0
          · rw [if_neg h0] at he ⊢
            have h1 : Ju.step f l.length i k s = (0, (Ju.step f l.length i k s).2.1, (Ju.step f l.length i k s).2.2) := by
              have : (Ju.step f l.length i k s).1 = 0 := by omega
              rw [← this]
            have h2 := step_st h1 hs (by omega)
            obtain ⟨a, b, c⟩ := ih (k + 1) _ _ (by omega) h2.1 he
            refine ⟨?_, b, c⟩
            simp only [Ia.wrong]
            have hr : Ia.right i = 0 := by
              by_cases hr : Ia.right i = 0
              · exact hr
              · exact absurd (by rw [Ju.step_right hr]; exact hr) h0
            rw [if_neg (fun x => x hr)]
            exact a
      obtain ⟨a, b, c⟩ := key l 0 Ju.first 0 (by omega) (st_first _) h
      exact ⟨hok, by omega, a, b, by omega⟩
  · exfalso
    unfold Ju.check at h
    rw [if_pos (by simpa using hok)] at h
    exact absurd h (by decide)
theorem bnd_good {l : List Ia.Ins} {f : Ju.Fr} {n : Int} (h : bnd l f n = 0) : (Ju.check f l).er = 0 ∧ (Ju.check f l).fu = n := by
  unfold bnd at h
  by_cases h1 : (Ju.check f l).er = 0
  · rw [if_pos h1] at h
    by_cases h2 : (Ju.check f l).fu = n
    · exact ⟨h1, h2⟩
    · rw [if_neg h2] at h; exact absurd h (by decide)
  · rw [if_neg h1] at h; exact absurd h h1
theorem okFr_bd {f : Ju.Fr} (h : Ju.okFr f = true) : (0 ≤ f.sl ∧ f.sl ≤ 24) ∧ (0 ≤ f.ol ∧ f.ol ≤ 16) ∧ (0 ≤ f.nw ∧ f.nw ≤ 16) ∧ (0 ≤ f.is ∧ f.is ≤ 8) ∧ (0 ≤ f.os ∧ f.os ≤ 8) := by
  unfold Ju.okFr at h
  simpa only [Bool.and_eq_true, decide_eq_true_eq] using h
/-- what is known of an image that is right -/
theorem chk_good {m : Im} (h : chk m = 0) : (m.ver ≠ 0 ∧ m.frm < m.ver ∧ 0 ≤ m.el ∧ m.el ≤ 16) ∧ (m.fr.ol = m.fr.nw ∧ (m.first.length : Int) = m.fr.nw) ∧ ¬ (m.frm = 0 ∧ (0 < m.el ∨ 0 < m.move.length)) ∧ bnd m.step m.fr m.sf = 0 ∧ bnd m.move (mvFr m) m.mf = 0 := by
  unfold chk at h
  by_cases h1 : m.ver = 0 ∨ m.ver ≤ m.frm ∨ m.el < 0 ∨ 16 < m.el
  · rw [if_pos h1] at h; exact absurd h (by decide)
  · rw [if_neg h1] at h
    by_cases h2 : m.fr.ol ≠ m.fr.nw ∨ (m.first.length : Int) ≠ m.fr.nw
    · rw [if_pos h2] at h; exact absurd h (by decide)
    · rw [if_neg h2] at h
      by_cases h3 : m.frm = 0 ∧ (0 < m.el ∨ 0 < m.move.length)
      · rw [if_pos h3] at h; exact absurd h (by decide)
      · rw [if_neg h3] at h
        by_cases h4 : bnd m.step m.fr m.sf ≠ 0
        · rw [if_pos h4] at h; exact absurd h h4
        · rw [if_neg h4] at h
          exact ⟨by omega, by omega, h3, by omega, h⟩
theorem chk_fits {m : Im} (h : chk m = 0) (ho : ImOk m) : Fits m := by
  obtain ⟨h1, h2, _, h4, h5⟩ := chk_good h
  obtain ⟨s1, s2⟩ := bnd_good h4
  obtain ⟨m1, m2⟩ := bnd_good h5
  obtain ⟨a1, a2, a3, a4, a5⟩ := check_good s1
  obtain ⟨b1, b2, b3, b4, b5⟩ := check_good m1
  have hb := okFr_bd a1
  exact { ho with el := by omega, sl := by omega, nw := by omega, is := by omega, os := by omega, sf := by omega, mf := by omega, fl := by omega, se := ⟨a3, a2⟩, me := ⟨b3, b2⟩ }
def words4 : Ia.Bs → List Int
  | a :: b :: c :: d :: r => Ia.signedN (Ia.unle [a, b, c, d]) :: words4 r
  | _ => []
/-- the image of the numbers of bytes, and of three runs -/
def imOf (bs x1 x2 x3 : Ia.Bs) : Im :=
  ⟨word bs 4 4, word bs 8 4, word bs 12 1, ⟨word bs 13 1, word bs 14 1, word bs 14 1, word bs 15 1, word bs 16 1⟩, words4 x1, (Ia.decode x2).1, (Ia.decode x3).1, word bs 17 2, word bs 19 2⟩
/-- the image that bytes say, strictly -/
def rd (bs : Ia.Bs) : Option Im :=
  if bs.take 4 = magic ∧ 21 ≤ bs.length then
    match runAt bs 21 with
    | none => none
    | some (x1, p1) => match runAt bs p1 with
      | none => none
      | some (x2, p2) => match runAt bs p2 with
        | none => none
        | some (x3, p3) => if p3 = bs.length ∧ x1.length % 4 = 0 ∧ (Ia.decode x2).2.1 = 0 ∧ (Ia.decode x3).2.1 = 0 then some (imOf bs x1 x2 x3) else none
  else none
/-- the run at a place, loosely -/
def runL (bs : Ia.Bs) (p : Nat) : Ia.Bs × Nat := (runAt bs p).getD ([], 0)
/-- the image that bytes say, loosely -/
def rdL (bs : Ia.Bs) : Im := imOf bs (runL bs 21).1 (runL bs (runL bs 21).2).1 (runL bs (runL bs (runL bs 21).2).2).1
end Go.Proofs.Ytjhopgmionpkoaa
namespace Go.Proofs.Ytjhopgmionpkoaa
set_option maxRecDepth 20000
open Go.RowKit Mem

def imCells (m : Im) (A1 A2 A3 : Option Addr) (c1 c2 c3 : Nat) : List Value := [.int .u32 m.ver, .int .u32 m.frm, .int .i64 m.el, .int .i64 m.fr.sl, .int .i64 m.fr.ol, .int .i64 m.fr.nw, .int .i64 m.fr.is, .int .i64 m.fr.os, .slice A1 m.first.length c1, .slice A2 m.step.length c2, .slice A3 m.move.length c3, .int .i64 m.sf, .int .i64 m.mf]
def imAgg (m : Im) (A1 A2 A3 : Option Addr) (c1 c2 c3 : Nat) : Value := .agg #[.int .u32 m.ver, .int .u32 m.frm, .int .i64 m.el, .int .i64 m.fr.sl, .int .i64 m.fr.ol, .int .i64 m.fr.nw, .int .i64 m.fr.is, .int .i64 m.fr.os, .slice A1 m.first.length c1, .slice A2 m.step.length c2, .slice A3 m.move.length c3, .int .i64 m.sf, .int .i64 m.mf]
set_option maxHeartbeats 4000000 in
theorem immoves (m : Im) (A1 A2 A3 : Option Addr) (c1 c2 c3 : Nat) (w : World) : Calls Try.prog 30 #[imAgg m A1 A2 A3 c1 c2 c3] w fun e w' => e = .returned (frAgg (mvFr m)) ∧ Below w.heap.size w w' := by
  unfold imAgg frAgg mvFr
  go_enter Try.func30, Try.ntmps30
  go_wp2_with fail
  refine bodyPost_ret (v := .agg #[.int .i64 0, .int .i64 m.el, .int .i64 m.fr.nw, .int .i64 0, .int .i64 0]) (by simp [results, Try.results30, go_sem]) rfl ⟨rfl, ?_⟩
  exact ((Below.refl _ _).alloc (Nat.le_refl _) _).alloc (by simp) _
set_option maxHeartbeats 4000000 in
theorem refmoves (m : Im) (A1 A2 A3 : Option Addr) (c1 c2 c3 : Nat) (w : World) : Calls Try.prog 32 #[imAgg m A1 A2 A3 c1 c2 c3] w fun e w' => e = .returned (frAgg (mvFr m)) ∧ Below w.heap.size w w' := by
  unfold imAgg frAgg mvFr
  go_enter Try.func32, Try.ntmps32
  go_wp2_with fail
  refine bodyPost_ret (v := .agg #[.int .i64 0, .int .i64 m.el, .int .i64 m.fr.nw, .int .i64 0, .int .i64 0]) (by simp [results, Try.results32, go_sem]) rfl ⟨rfl, ?_⟩
  exact ((Below.refl _ _).alloc (Nat.le_refl _) _).alloc (by simp) _
set_option maxHeartbeats 4000000 in
theorem imbound (l : List Ia.Ins) (A : Option Addr) (c : Nat) (f : Ju.Fr) (fuel : Int) (w : World) (hA : InsAt w A l) (hn : l.length ≤ 4611686018427387904) (hr : ∀ k (h : k < l.length), -2147483648 ≤ (l[k]'h).n ∧ (l[k]'h).n ≤ 2147483647) :
    Calls Try.prog 29 #[.slice A l.length c, frAgg f, .int .i64 fuel] w fun e w' => e = .returned (.int .i64 (bnd l f fuel)) ∧ Below w.heap.size w w' := by
  have HA := Lib.hid hA
  have HC := Lib.hid (fun W h => jcheck f l A c W h hn hr)
  clear hA hr
  unfold frAgg at *
  go_enter Try.func29, Try.ntmps29
  go_wp2_with fail
  obtain ⟨W0, hW0⟩ : ∃ W0, W0 = w.alloc (.cells #[.int .i64 f.sl, .int .i64 f.ol, .int .i64 f.nw, .int .i64 f.is, .int .i64 f.os] 24) := ⟨_, rfl⟩
  rw [← hW0]
  have HB0 : Hid (Below w.heap.size w W0) := by unfold RowKit.Hid; rw [hW0]; exact (Below.refl _ _).alloc (Nat.le_refl _) _
  clear hW0
  refine (HC.out _ (HA.out.below HB0.out (Nat.le_refl _))).mono ?_
  rintro e w1 ⟨⟨dp, fu, er, pl⟩, hr, rfl, hb1⟩
  have HR := Lib.hid hr
  have HB1 := Lib.hid (HB0.out.trans (hb1.mono HB0.out.size))
  clear hr hb1 HC
  dsimp only
  by_cases h0 : er = 0
  · subst h0
    by_cases h1 : fu = fuel
    · have hE : bnd l f fuel = 0 := by unfold bnd; rw [← HR.out]; dsimp only; rw [if_pos rfl, if_pos h1]
      have HE := Lib.hid hE
      have b1 : (fu != fuel) = false := by simpa using h1
      clear h1 hE
      go_wp2_with fail
      go_ret
      exact ⟨by rw [HE.out]; rfl, HB1.out.alloc HB1.out.size _⟩
    · have hE : bnd l f fuel = 14 := by unfold bnd; rw [← HR.out]; dsimp only; rw [if_pos rfl, if_neg h1]
      have HE := Lib.hid hE
      have b1 : (fu != fuel) = true := by simpa using h1
      clear h1 hE
      go_wp2_with fail
      go_ret
      exact ⟨by rw [HE.out]; rfl, HB1.out.alloc HB1.out.size _⟩
  · have hE : bnd l f fuel = er := by unfold bnd; rw [← HR.out]; dsimp only; rw [if_neg h0]
    have HE := Lib.hid hE
    have b0 : (er == 0) = false := by simpa using h0
    clear h0 hE
    go_wp2_with fail
    go_ret
    exact ⟨by rw [HE.out]; rfl, HB1.out.alloc HB1.out.size _⟩
end Go.Proofs.Ytjhopgmionpkoaa
namespace Go.Proofs.Ytjhopgmionpkoaa
set_option maxRecDepth 20000
open Go.RowKit Mem

set_option linter.unusedVariables false
noncomputable def imckOps : Array Oper := findOps 15 ((Try.f13).body.getD (.exit 0))
def imckSlots : List (Nat × Nat) := [(0, 61), (1, 62), (2, 63), (3, 64), (4, 65), (5, 66), (6, 67), (7, 2)]
def imckVal (m : Im) (A1 A2 A3 : Option Addr) (c1 c2 c3 g : Nat) : Nat → Value
  | 0 => .pointer (some ⟨g, 10, none⟩)
  | 1 => .slice A3 m.move.length c3
  | 2 => imAgg m A1 A2 A3 c1 c2 c3
  | 3 => frAgg (mvFr m)
  | 4 => .pointer (some ⟨g, 12, none⟩)
  | 5 => .int .i64 m.mf
  | 6 => .int .i64 (bnd m.move (mvFr m) m.mf)
  | _ => .int .i64 (bnd m.move (mvFr m) m.mf)
theorem imckRegion {Q : Exit → Act → World → Prop} (a0 : Act) (W0 : World) (hs : 67 < a0.tmps.size) (m : Im) (A1 A2 A3 : Option Addr) (c1 c2 c3 g : Nat) (hA : InsAt W0 A3 m.move) (hn : m.move.length ≤ 4611686018427387904) (hr : ∀ k (h : k < m.move.length), -2147483648 ≤ (m.move[k]'h).n ∧ (m.move[k]'h).n ≤ 2147483647) (hg : W0.heap[g]? = some (.cells #[.int .u32 m.ver, .int .u32 m.frm, .int .i64 m.el, .int .i64 m.fr.sl, .int .i64 m.fr.ol, .int .i64 m.fr.nw, .int .i64 m.fr.is, .int .i64 m.fr.os, .slice A1 m.first.length c1, .slice A2 m.step.length c2, .slice A3 m.move.length c3, .int .i64 m.sf, .int .i64 m.mf] 28 (0, 0)))
    (e1 : a0.eval (.tmp 1) = .pointer (some ⟨g, 0, none⟩))
    (hQ : ∀ w, Below W0.heap.size W0 w → Q .normal (imckSlots.foldl (fun x p => x.put (some p.2) ((imckVal m A1 A2 A3 c1 c2 c3 g) p.1)) a0) w) :
    wpAny Try.prog .any imckOps Q 8 (Array.replicate 8 false) a0 W0.drew := by
  have ok : slotsFix imckSlots a0.tmps.size = true := by
    have : ∀ z, 67 < z → slotsFix imckSlots z = true := by
      intro z hz
      simp [slotsFix, imckSlots]
      omega
    exact this _ hs
  have lg : g < W0.heap.size := (Array.getElem?_eq_some_iff.1 hg).1
  refine region_fixed (by kernel_rfl) W0 a0 imckSlots (imckVal m A1 A2 A3 c1 c2 c3 g) ok (by kernel_rfl) 8 (by kernel_rfl) ?_ hQ
  intro i L a w h hi hneed
  rcases (show i = 0 ∨ i = 1 ∨ i = 2 ∨ i = 3 ∨ i = 4 ∨ i = 5 ∨ i = 6 ∨ i = 7 by omega) with rfl | rfl | rfl | rfl | rfl | rfl | rfl | rfl
  · exact fix_value (i := 0) (d := 61) rfl (wanted_none rfl) rfl (by decide) (x_field rfl ((h.old rfl).trans e1) (by simp [go_sem]))
  · exact fix_value (i := 1) (d := 62) rfl (wanted_none rfl) rfl (by decide) (x_load rfl (h.get 0 61 (by decide) (hneed 0 (by kernel_rfl))) (by have hh := (h.below.block _ lg).trans hg; have hh0 : w.cell? ⟨g, 10, none⟩ = some _ := cell_of_row w g 10 _ _ (0, 0) hh; simp [go_sem, hh0]; rfl))
  · exact fix_value (i := 2) (d := 63) rfl (wanted_none rfl) rfl (by decide) (x_load_row (cs := imCells m A1 A2 A3 c1 c2 c3) (n := 13) rfl ((h.old rfl).trans e1) ((h.below.block _ lg).trans hg) Try.underlying28 rfl (by kernel_rfl) rfl)
  · refine fix_call (i := 3) (d := 64) 30 Try.f30 #[.tmp 63] _ #[imAgg m A1 A2 A3 c1 c2 c3] rfl (wanted_none rfl) rfl (by decide) rfl (by simp [(h.get 2 63 (by decide) (hneed 2 (by kernel_rfl))), imckVal]) Try.func30 (by kernel_rfl) (by kernel_rfl) ?_
    exact immoves m A1 A2 A3 c1 c2 c3 w
  · exact fix_value (i := 4) (d := 65) rfl (wanted_none rfl) rfl (by decide) (x_field rfl ((h.old rfl).trans e1) (by simp [go_sem]))
  · exact fix_value (i := 5) (d := 66) rfl (wanted_none rfl) rfl (by decide) (x_load rfl (h.get 4 65 (by decide) (hneed 4 (by kernel_rfl))) (by have hh := (h.below.block _ lg).trans hg; have hh0 : w.cell? ⟨g, 12, none⟩ = some _ := cell_of_row w g 12 _ _ (0, 0) hh; simp [go_sem, hh0]; rfl))
  · refine fix_call (i := 6) (d := 67) 29 Try.f29 #[.tmp 62, .tmp 64, .tmp 66] _ #[.slice A3 m.move.length c3, frAgg (mvFr m), .int .i64 m.mf] rfl (wanted_none rfl) rfl (by decide) rfl (by simp [(h.get 1 62 (by decide) (hneed 1 (by kernel_rfl))), (h.get 3 64 (by decide) (hneed 3 (by kernel_rfl))), (h.get 5 66 (by decide) (hneed 5 (by kernel_rfl))), imckVal]) Try.func29 (by kernel_rfl) (by kernel_rfl) ?_
    exact imbound m.move A3 c3 (mvFr m) m.mf w (hA.below h.below (Nat.le_refl _)) hn hr
  · exact fix_value (i := 7) (d := 2) rfl (wanted_none rfl) rfl (by decide) (x_assign rfl (h.get 6 67 (by decide) (hneed 6 (by kernel_rfl))))
end Go.Proofs.Ytjhopgmionpkoaa
namespace Go.Proofs.Ytjhopgmionpkoaa
set_option maxRecDepth 20000
open Go.RowKit Mem

/-- the slices of an image in memory -/
structure ImAt (w : World) (m : Im) (A1 A2 A3 : Option Addr) (c1 c2 c3 : Nat) : Prop where
  first : Src w A1 m.first.length c1 (m.first.map fun n => .int .i32 n) 1
  step : ISrc w A2 c2 m.step
  move : ISrc w A3 c3 m.move
theorem ImAt.below {w w' : World} {m : Im} {A1 A2 A3 : Option Addr} {c1 c2 c3 B : Nat} (h : ImAt w m A1 A2 A3 c1 c2 c3) (hb : Below B w w') (hB : w.heap.size ≤ B) : ImAt w' m A1 A2 A3 c1 c2 c3 :=
  ⟨h.first.below hb hB, h.step.below hb hB, h.move.below hb hB⟩
/-- how long the slices of an image may be -/
structure ImLen (m : Im) : Prop where
  first : m.first.length ≤ 35184372087808
  step : m.step.length ≤ 35184372087808
  move : m.move.length ≤ 35184372087808
theorem ins_range {l : List Ia.Ins} (h : ∀ i ∈ l, InsOk i) : ∀ k (hk : k < l.length), -2147483648 ≤ (l[k]'hk).n ∧ (l[k]'hk).n ≤ 2147483647 := fun _ hk => (h _ (List.getElem_mem hk)).2
def ChkPost (m : Im) (w : World) (e : Ending) (w' : World) : Prop := e = .returned (.int .i64 (chk m)) ∧ Below w.heap.size w w'
set_option maxHeartbeats 16000000 in
theorem imcheck (m : Im) (A1 A2 A3 : Option Addr) (c1 c2 c3 : Nat) (w : World) (hA : ImAt w m A1 A2 A3 c1 c2 c3) (hl : ImLen m) (ho : ImOk m) :
    Calls Try.prog 13 #[imAgg m A1 A2 A3 c1 c2 c3] w (ChkPost m w) := by
  have HS := Lib.hid hA.step.at_
  have HM := Lib.hid hA.move.at_
  have HBS := Lib.hid (fun W h => imbound m.step A2 c2 m.fr m.sf W h (by have := hl.step; omega) (ins_range ho.step))
  have HMN := Lib.hid (show m.move.length ≤ 4611686018427387904 by have := hl.move; omega)
  have HMR := Lib.hid (ins_range ho.move)
  have hf := hl.first
  have hmv := hl.move
  have hv := ho.ver
  have hfm := ho.frm
  have HBF : Hid (∀ X, Below w.heap.size w (w.alloc X)) := fun X => (Below.refl _ _).alloc (Nat.le_refl _) X
  clear hA hl ho
  unfold imAgg frAgg at *
  by_cases h1 : m.ver = 0
  · have HE : Hid (1 = chk m) := by unfold RowKit.Hid chk; rw [if_pos (.inl h1)]
    rw [h1]
    clear h1
    go_enter Try.func13, Try.ntmps13
    go_wp2_with fail
    go_ret
    exact ⟨ret_int HE.out.symm, HBF.out _⟩
  have b1 : (m.ver == 0) = false := by simpa using h1
  by_cases h2 : m.ver ≤ m.frm
  · have HE : Hid (1 = chk m) := by unfold RowKit.Hid chk; rw [if_pos (.inr (.inl h2))]
    clear h1
    go_enter Try.func13, Try.ntmps13
    go_wp2_with fail
    go_ret
    exact ⟨ret_int HE.out.symm, HBF.out _⟩
  by_cases h3 : m.el < 0
  · have HE : Hid (1 = chk m) := by unfold RowKit.Hid chk; rw [if_pos (.inr (.inr (.inl h3)))]
    clear h1
    go_enter Try.func13, Try.ntmps13
    go_wp2_with fail
    go_ret
    exact ⟨ret_int HE.out.symm, HBF.out _⟩
  by_cases h4 : 16 < m.el
  · have HE : Hid (1 = chk m) := by unfold RowKit.Hid chk; rw [if_pos (.inr (.inr (.inr h4)))]
    clear h1
    go_enter Try.func13, Try.ntmps13
    go_wp2_with fail
    go_ret
    exact ⟨ret_int HE.out.symm, HBF.out _⟩
  have hx1 : ¬ (m.ver = 0 ∨ m.ver ≤ m.frm ∨ m.el < 0 ∨ 16 < m.el) := by omega
  by_cases h5 : m.fr.ol = m.fr.nw
  case neg =>
    have HE : Hid (1 = chk m) := by unfold RowKit.Hid chk; rw [if_neg hx1, if_pos (.inl h5)]
    have b5 : (m.fr.ol != m.fr.nw) = true := by simpa using h5
    clear h1 h5 hx1
    go_enter Try.func13, Try.ntmps13
    go_wp2_with fail
    go_ret
    exact ⟨ret_int HE.out.symm, HBF.out _⟩
  have b5 : (m.fr.ol != m.fr.nw) = false := by simpa using h5
  by_cases h6 : (m.first.length : Int) = m.fr.nw
  case neg =>
    have HE : Hid (1 = chk m) := by unfold RowKit.Hid chk; rw [if_neg hx1, if_pos (.inr h6)]
    have b6 : ((m.first.length : Int) != m.fr.nw) = true := by simpa using h6
    clear h1 h5 h6 hx1
    go_enter Try.func13, Try.ntmps13
    go_wp2_with fail
    go_ret
    exact ⟨ret_int HE.out.symm, HBF.out _⟩
  have b6 : ((m.first.length : Int) != m.fr.nw) = false := by simpa using h6
  have hx2 : ¬ (m.fr.ol ≠ m.fr.nw ∨ (m.first.length : Int) ≠ m.fr.nw) := by omega
  have rest : ∀ (b : Bool), (m.frm == 0) = b → ¬ (m.frm = 0 ∧ (0 < m.el ∨ 0 < m.move.length)) → Calls Try.prog 13 #[.agg #[.int .u32 m.ver, .int .u32 m.frm, .int .i64 m.el, .int .i64 m.fr.sl, .int .i64 m.fr.ol, .int .i64 m.fr.nw, .int .i64 m.fr.is, .int .i64 m.fr.os, .slice A1 m.first.length c1, .slice A2 m.step.length c2, .slice A3 m.move.length c3, .int .i64 m.sf, .int .i64 m.mf]] w (ChkPost m w) := by
    intro b hb h7
    have HE : Hid (chk m = if bnd m.step m.fr m.sf ≠ 0 then bnd m.step m.fr m.sf else bnd m.move (mvFr m) m.mf) := by unfold RowKit.Hid chk; rw [if_neg hx1, if_neg hx2, if_neg h7]
    have h8 : b = true → m.el ≤ 0 ∧ m.move.length = 0 := by
      rintro rfl
      have : m.frm = 0 := by simpa using hb
      omega
    have HF : Hid (chk m = if bnd m.step m.fr m.sf ≠ 0 then bnd m.step m.fr m.sf else bnd m.move (mvFr m) m.mf) := HE
    generalize hB : bnd m.step m.fr m.sf = B at *
    have HBB := Lib.hid hB
    clear h1 h5 h6 hx1 hx2 h7 HF hB
    have h9 : b = false ∨ (b = true ∧ ¬ 0 < m.el ∧ ¬ 0 < m.move.length ∧ ¬ (0 : Int) < (m.move.length : Int)) := by
      cases b with
      | false => exact .inl rfl
      | true => have := h8 rfl; exact .inr ⟨rfl, by omega, by omega, by omega⟩
    clear h8
    rcases h9 with rfl | ⟨rfl, q1, q2, q3⟩
    all_goals
      go_enter Try.func13, Try.ntmps13
      go_wp2_with fail
      obtain ⟨W0, hW0⟩ : ∃ W0, W0 = w.alloc (.cells #[.int .u32 m.ver, .int .u32 m.frm, .int .i64 m.el, .int .i64 m.fr.sl, .int .i64 m.fr.ol, .int .i64 m.fr.nw, .int .i64 m.fr.is, .int .i64 m.fr.os, .slice A1 m.first.length c1, .slice A2 m.step.length c2, .slice A3 m.move.length c3, .int .i64 m.sf, .int .i64 m.mf] 28) := ⟨_, rfl⟩
      rw [← hW0]
      have HR0 : Hid (W0.heap[w.heap.size]? = some (.cells #[.int .u32 m.ver, .int .u32 m.frm, .int .i64 m.el, .int .i64 m.fr.sl, .int .i64 m.fr.ol, .int .i64 m.fr.nw, .int .i64 m.fr.is, .int .i64 m.fr.os, .slice A1 m.first.length c1, .slice A2 m.step.length c2, .slice A3 m.move.length c3, .int .i64 m.sf, .int .i64 m.mf] 28 (0, 0))) := by unfold RowKit.Hid; rw [hW0]; exact heap_alloc_new _ _
      have HB0 : Hid (Below w.heap.size w W0) := by unfold RowKit.Hid; rw [hW0]; exact HBF.out _
      clear hW0
      refine (HBS.out _ (HS.out.below HB0.out (Nat.le_refl _))).mono ?_
      rintro e w1 ⟨rfl, hb1⟩
      have HR1 := Lib.hid ((hb1.block _ (Array.getElem?_eq_some_iff.1 HR0.out).1).trans HR0.out)
      have HB1 := Lib.hid (HB0.out.trans (hb1.mono HB0.out.size))
      clear hb1 HR0 HB0 HBS
      by_cases hz : B = 0
      · subst hz
        have HE2 : Hid (bnd m.move (mvFr m) m.mf = chk m) := by unfold RowKit.Hid; rw [HE.out, if_neg (by decide)]
        clear HE
        go_wp2_with fail
        refine wp_region_any (by kernel_rfl) ?_
        refine wpAny_by (ops' := imckOps) (by kernel_rfl) ?_
        refine imckRegion _ w1 ?hs m A1 A2 A3 c1 c2 c3 w.heap.size (HM.out.below HB1.out (Nat.le_refl _)) HMN.out HMR.out HR1.out rfl ?_
        case hs => simp
        intro w5 hb5
        simp only [imckSlots, List.foldl_cons, List.foldl_nil]
        simp only [imckVal]
        simp only [Act.put, List.setIfInBounds_toArray, List.set_cons_zero, List.set_cons_succ]
        have HB5 := Lib.hid (HB1.out.trans (hb5.mono HB1.out.size))
        clear hb5
        go_wp2_with fail
        go_ret
        exact ⟨ret_int HE2.out.symm, HB5.out⟩
      · have HE2 : Hid (B = chk m) := by unfold RowKit.Hid; rw [HE.out, if_pos hz]
        have bz : (B == 0) = false := by simpa using hz
        have bz2 : (B != 0) = true := by simpa using hz
        clear HE hz
        go_wp2_with fail
        go_ret
        exact ⟨ret_int HE2.out.symm, HB1.out⟩
  by_cases h7 : m.frm = 0 ∧ (0 < m.el ∨ 0 < m.move.length)
  · have HE : Hid (1 = chk m) := by unfold RowKit.Hid chk; rw [if_neg hx1, if_neg hx2, if_pos h7]
    have b7 : (m.frm == 0) = true := by simpa using h7.1
    obtain ⟨h71, h72⟩ := h7
    clear h1 h5 h6 hx1 hx2 rest h71
    by_cases h8 : 0 < m.el
    · clear h72
      go_enter Try.func13, Try.ntmps13
      go_wp2_with fail
      go_ret
      exact ⟨ret_int HE.out.symm, HBF.out _⟩
    · have h9 : 0 < m.move.length := by omega
      clear h72
      go_enter Try.func13, Try.ntmps13
      go_wp2_with fail
      go_ret
      exact ⟨ret_int HE.out.symm, HBF.out _⟩
  · exact rest _ rfl h7
end Go.Proofs.Ytjhopgmionpkoaa
