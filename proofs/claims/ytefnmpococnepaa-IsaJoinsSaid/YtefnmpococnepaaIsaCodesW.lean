/-
  The walk of the law IsaCodes: any code is laid down as the document says, or refused.
-/
import Derived.Test.YtefnmpococnepaaIsaDecodesW
namespace Go.Proofs.Ytefnmpococnepaa
open Go.RowKit Mem

abbrev InsArg (w : World) (A : Option Addr) (c : Nat) (l : List Ia.Ins) : Prop := ISrc w A c l ∧ (∀ k (h : k < l.length), InsOk (l[k]'h)) ∧ l.length ≤ 8796093022202
set_option maxHeartbeats 4000000 in
theorem isaCodes_walk (w : World) (A : Option Addr) (c : Nat) (l : List Ia.Ins) (hw : InsArg w A c l) :
    Calls Try.prog 6 #[.slice A l.length c] w fun e w' => e = .returned (.bool true) ∧ Below w.heap.size w w' := by
  obtain ⟨hA, hok, hn⟩ := hw
  have HA := Lib.hid hA
  clear hA
  by_cases hbig : 2000 < l.length
  · clear hok
    go_enter Try.func6, Try.ntmps6
    go_wp2_with fail
    refine (known_any _).mono ?_
    rintro e w1 ⟨rfl, hb1⟩
    go_wp2_with fail
    go_ret
    exact ⟨rfl, hb1⟩
  · have HE := Lib.hid (fun A c W h => isaencode l A c W h (by omega) (fun k h => (hok k h).2))
    have HR := Lib.hid (fun A c W h => refencode l A c W h (by omega) (fun k h => (hok k h).2))
    clear hok
    generalize encOf l = r at *
    obtain ⟨bs, er⟩ := r
    dsimp only at HE HR
    go_enter Try.func6, Try.ntmps6
    go_wp2_with fail
    refine (inlent l A c _ HA.out (by omega)).mono ?_
    rintro e w1 ⟨v1, rfl, ho1, hb1⟩
    obtain ⟨A1, c1, rfl⟩ := own_slice ho1
    have HI1 := Lib.hid (InsAt.of_own ho1)
    have HB1 := Lib.hid hb1
    clear ho1 hb1
    go_wp2_with fail
    refine (HE.out A1 c1 _ HI1.out).mono ?_
    rintro e w2 ⟨vx, rfl, hox, hb2⟩
    obtain ⟨Ax, cx, rfl⟩ := own_slice hox
    have HX := Lib.hid (BytesAt.of_own hox)
    have HI2 := Lib.hid (HI1.out.below hb2 (Nat.le_refl _))
    have HB2 := Lib.hid (HB1.out.trans (hb2.mono HB1.out.size))
    clear hox hb2
    go_wp2_with fail
    refine (HR.out A c _ (HA.out.at_.below HB2.out (Nat.le_refl _))).mono ?_
    rintro e w3 ⟨vy, rfl, hoy, hb3⟩
    obtain ⟨Ay, cy, rfl⟩ := own_slice hoy
    have cv1 := conv_bytes w3 Ax cx bs (HX.out.below hb3 (Nat.le_refl _))
    have cv2 := conv_bytes w3 Ay cy bs (BytesAt.of_own hoy)
    have HI3 := Lib.hid (HI2.out.below hb3 (Nat.le_refl _))
    have HB3 := Lib.hid (HB2.out.trans (hb3.mono HB2.out.size))
    clear hoy hb3
    go_wp2_with fail
    clear cv1 cv2
    refine (insame l A1 A c1 c _ HI3.out (HA.out.at_.below HB3.out (Nat.le_refl _)) (by omega)).mono ?_
    rintro e w4 ⟨rfl, n4, rfl⟩
    go_wp2_with fail
    refine (known_any _).mono ?_
    rintro e w5 ⟨rfl, hb5⟩
    go_wp2_with fail
    go_ret
    exact ⟨rfl, (below_drewN HB3.out n4).trans (hb5.mono HB3.out.size)⟩
end Go.Proofs.Ytefnmpococnepaa
