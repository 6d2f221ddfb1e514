/-
  The walk of the law ShaPads: what stands behind any number of bytes is as the document says.
-/
import Derived.Test.YtjglboejgmplgaaShaK
import Derived.Test.YtjglboejgmplgaaShaQ
namespace Go.Proofs.Ytjglboejgmplgaa
open Go.RowKit Mem

def padL (n : Int) : List UInt8 := if 0 ≤ n ∧ n ≤ 1152921504606846976 then padOf n.toNat else []
def padE (n : Int) : Int := if 0 ≤ n ∧ n ≤ 1152921504606846976 then 0 else 1
theorem padL_len (n : Int) : (padL n).length ≤ 72 := by
  unfold padL
  split
  · exact padOf_len _
  · simp
theorem shapad_any (n : Int) (w : World) :
    Calls Try.prog 16 #[.int .i64 n] w fun e w' => ∃ v, e = .returned (.tuple #[v, .int .i64 (padE n)]) ∧ w'.ownsRow w.heap.size 5 1 v (padL n).length (bcells (padL n)) ∧ Below w.heap.size w w' := by
  unfold padL padE
  by_cases h : 0 ≤ n ∧ n ≤ 1152921504606846976
  · rw [if_pos h, if_pos h]
    obtain ⟨m, rfl⟩ := Int.eq_ofNat_of_zero_le h.1
    exact shapad_ok m w (by omega)
  · rw [if_neg h, if_neg h]
    refine (shapad_bad n w (by omega)).mono ?_
    rintro e w' ⟨rfl, rfl⟩
    exact ⟨_, rfl, World.ownsRow_nil _ _ _ _, Below.refl _ _⟩
theorem refpad_any (n : Int) (w : World) :
    Calls Try.prog 17 #[.int .i64 n] w fun e w' => ∃ v, e = .returned (.tuple #[v, .int .i64 (padE n)]) ∧ w'.ownsRow w.heap.size 5 1 v (padL n).length (bcells (padL n)) ∧ Below w.heap.size w w' := by
  unfold padL padE
  by_cases h : 0 ≤ n ∧ n ≤ 1152921504606846976
  · rw [if_pos h, if_pos h]
    obtain ⟨m, rfl⟩ := Int.eq_ofNat_of_zero_le h.1
    exact refpad_ok m w (by omega)
  · rw [if_neg h, if_neg h]
    refine (refpad_bad n w (by omega)).mono ?_
    rintro e w' ⟨rfl, rfl⟩
    exact ⟨_, rfl, World.ownsRow_nil _ _ _ _, Below.refl _ _⟩
set_option maxHeartbeats 4000000 in
theorem shaPads_walk (w : World) (n : Int) (_ : (Lit.int .i64 n).wf = true) :
    Calls Try.prog 4 #[.int .i64 n] w fun e w' => e = .returned (.bool true) ∧ Below w.heap.size w w' := by
  have HX := Lib.hid (fun W => shapad_any n W)
  have HY := Lib.hid (fun W => refpad_any n W)
  have hbl := padL_len n
  generalize padL n = bs at *
  generalize padE n = er at *
  go_enter Try.func4, Try.ntmps4
  go_wp2_with fail
  refine (HX.out _).mono ?_
  rintro e w1 ⟨vx, rfl, hox, hb1⟩
  have HB1 := Lib.hid hb1
  have HOX := Lib.hid hox
  obtain ⟨Ax, cx, rfl⟩ := own_slice hox
  clear hb1 hox
  go_wp2_with fail
  refine (HY.out _).mono ?_
  rintro e w2 ⟨vy, rfl, hoy, hb2⟩
  obtain ⟨Ay, cy, rfl⟩ := own_slice hoy
  have HX2 := Lib.hid (own_below HOX.out hb2)
  have HY2 := Lib.hid hoy
  have HB2 := Lib.hid (HB1.out.trans (hb2.mono HB1.out.size))
  have cx0 := conv_bytes w2 Ax cx bs (BytesAt.of_own HX2.out)
  have cy0 := conv_bytes w2 Ay cy bs (BytesAt.of_own HY2.out)
  clear hoy hb2
  go_wp2_with fail
  clear cx0 cy0
  refine (wspoil bs (.slice Ax bs.length cx) _ w2 HX2.out HB2.out.size (by omega)).mono ?_
  rintro e w6 ⟨⟨r6, rfl⟩, hg6⟩
  have hbl6 : Below w.heap.size w2 w6 := below_of_grown hg6 HB2.out.size (fun g hg => (HX2.out.lt g hg).1)
  have HY6 := Lib.hid (own_apart HY2.out (fun k hk => (HOX.out.lt k hk).2) hg6)
  have HB6 := Lib.hid (HB2.out.trans hbl6)
  clear hbl6 hg6
  go_wp2_with fail
  refine (HX.out _).mono ?_
  rintro e w7 ⟨vz, rfl, hoz, hb7⟩
  obtain ⟨Az, cz, rfl⟩ := own_slice hoz
  have HB7 := Lib.hid (HB6.out.trans (hb7.mono HB6.out.size))
  have cvz := conv_bytes w7 Az cz bs (BytesAt.of_own hoz)
  have cvy := conv_bytes w7 Ay cy bs (BytesAt.of_own (own_below HY6.out hb7))
  clear hoz hb7
  go_wp2_with fail
  clear cvz cvy
  refine (known_any _).mono ?_
  rintro e w8 ⟨rfl, hb8⟩
  go_wp2_with fail
  go_ret
  exact ⟨rfl, HB7.out.trans (hb8.mono HB7.out.size)⟩
end Go.Proofs.Ytjglboejgmplgaa
