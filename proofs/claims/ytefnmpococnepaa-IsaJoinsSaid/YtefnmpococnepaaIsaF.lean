/-
  An instruction in bytes: Bytes of the package isa.
-/
import Derived.Test.YtefnmpococnepaaIsaE
import Derived.Test.YtefnmpococnepaaOctB
import Derived.Deep.RegionHeld3
import Derived.Deep.DeepCutAuto
namespace Go.Proofs.Ytefnmpococnepaa
open Go.RowKit Mem

theorem plain_lt (n : Int) : Ia.plainN n < 4294967296 := by unfold Ia.plainN; omega
theorem right_plain {i : Ia.Ins} (h : Ia.right i = 0) : Ia.plainN i.n < 256 ^ Ia.form i.op := by
  have hp := plain_lt i.n
  unfold Ia.right at h
  unfold Ia.form Ia.most at h
  unfold Ia.form
  unfold Ia.plainN at *
  repeat' split at h
  all_goals (try omega)
  all_goals (repeat' split)
  all_goals (try omega)
theorem w64_nat {n : Nat} (h : n < 18446744073709551616) : IntKind.u64.wrap (n : Int) = n := by
  simp only [IntKind.wrap_u64]; omega
theorem w8_op {i : Ia.Ins} (h : Ia.right i = 0) : IntKind.u8.wrap i.op = ((UInt8.ofNat i.op.toNat).toNat : Int) := by
  have ho := Ia.form_op (Ia.right_form h)
  rw [UInt8.toNat_ofNat']
  simp only [IntKind.wrap_u8]
  omega
theorem one_at (W : World) (c : UInt8) (t : TypeId) : BytesAt ((W.alloc (.cells #[.int .u8 (c.toNat : Int)] t)).drew) (some ⟨W.heap.size, 0, none⟩) [c] := by
  intro k hk
  refine ⟨W.heap.size, 0, rfl, ?_⟩
  obtain rfl : k = 0 := by simpa using hk
  exact (below_new (Below.refl _ _) 0).1
set_option maxHeartbeats 4000000 in
theorem isabytes_bad (i : Ia.Ins) (w : World) (h : Ia.right i ≠ 0) :
    Calls Try.prog 19 #[insAgg i] w fun e w' => e = .returned (.tuple #[.slice none 0 0, .int .i64 (Ia.right i)]) ∧ Below w.heap.size w w' := by
  have hb : ((Ia.right i) != 0) = true := by rw [bne_iff_ne]; exact h
  have HR := Lib.hid (isaright i)
  clear h
  unfold insAgg at *
  generalize Ia.right i = rt at *
  go_enter Try.func19, Try.ntmps19
  go_wp2_with fail
  refine (HR.out _).mono ?_
  rintro e w1 ⟨rfl, hb1⟩
  obtain ⟨_, hbu⟩ := below_up hb1
  clear hb1
  go_wp2_with fail
  go_ret2
  exact ⟨rfl, hbu⟩
set_option maxHeartbeats 4000000 in
theorem isabytes_ok (i : Ia.Ins) (w : World) (h : Ia.right i = 0) (h1 : -2147483648 ≤ i.n) (h2 : i.n ≤ 2147483647) :
    Calls Try.prog 19 #[insAgg i] w fun e w' => ∃ v, e = .returned (.tuple #[v, .int .i64 0]) ∧ w'.ownsRow w.heap.size 5 1 v (1 + Ia.form i.op) (bcells (Ia.bytesOf i)) ∧ Below w.heap.size w w' := by
  have HR := Lib.hid (isaright i)
  rw [h] at HR
  have HP := Lib.hid (right_plain h)
  have HW := Lib.hid (w64_nat (Nat.lt_trans (plain_lt i.n) (by decide)))
  have HO := Lib.hid (w8_op h)
  have hf1 := Ia.right_form h
  have hf4 := Ia.form_le i.op
  have hfa : 1 ≤ Ia.form i.op := by omega
  have hfb : Ia.form i.op < 8 := by omega
  clear h hf1 hf4
  unfold insAgg at *
  go_enter Try.func19, Try.ntmps19
  go_wp2_with fail
  refine (HR.out _).mono ?_
  rintro e w1 ⟨rfl, hb1⟩
  obtain ⟨hs1, hbu⟩ := below_up hb1
  have k0 := (below_new hb1 0).1
  have k1 := (below_new hb1 1).1
  have HB := Lib.hid hbu
  clear hb1 hbu
  simp at k0 k1
  go_wp2_with fail
  go_region_held3 (fun w' => w'.cell? ⟨w.heap.size, 0, none⟩ = some (.int .i64 i.op) ∧ w'.cell? ⟨w.heap.size, 1, none⟩ = some (.int .i32 i.n)) (go_keep)
    (first
      | (go_at_call 30; refine (isaform _ _).mono ?_; rintro e w' ⟨rfl, rfl⟩)
      | (go_at_call 36; refine (octplain _ h1 h2 _).mono ?_; rintro e w' ⟨rfl, rfl⟩)
      | (go_at_call 35; rw [HW.out, HO.out]; refine (octput [UInt8.ofNat i.op.toNat] _ 1 (Ia.form i.op) (Ia.plainN i.n) _ (one_at _ _ _) (by simp) hfa hfb HP.out).mono ?_; rintro e w2 ⟨v, rfl, hown, hb2⟩; have HO2 := Lib.hid hown; have k2 := (hb2.cell (p := ⟨w.heap.size, 0, none⟩) (by simp; omega)); have k3 := (hb2.cell (p := ⟨w.heap.size, 1, none⟩) (by simp; omega)); have HB2 := Lib.hid hb2; clear hown hb2; simp [go_sem] at k2 k3))
  all_goals
    go_wp2_with fail
    go_ret2
    refine ⟨_, rfl, own_base HO2.out (by simp; omega), ?_⟩
    exact (below_drewN (HB.out.alloc HB.out.size _) 1).trans (HB2.out.mono (by simp; omega))
end Go.Proofs.Ytefnmpococnepaa
