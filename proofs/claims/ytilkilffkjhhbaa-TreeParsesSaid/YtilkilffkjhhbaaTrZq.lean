/-
  What the reference's rules hand back; unary.
  The reference's expr.
  The reference's factor.
  The reference's binary.
-/
import Derived.Test.YtilkilffkjhhbaaTrZp
import Derived.Deep.RegionHeld3
import Derived.Test.YtilkilffkjhhbaaTrP7
namespace Go.Proofs.Ytilkilffkjhhbaa
set_option maxRecDepth 20000
set_option linter.unusedVariables false
open Go.RowKit Tr Mem

def rGives (w : World) (bp : Nat) (A : Option Addr) (c : Nat) (ts : List Lx.Tok) (r : Ex × St) (e : Ending) (w' : World) : Prop :=
  ∃ A' c', e = .returned (exAgg r.1 A' c') ∧ At w' (fun b => w.heap.size ≤ b) r.1 A' ∧ Took w bp 66 A c ts r.2 w'
def rfnOf : Tr.Call → Nat
  | .expr => 74
  | .level _ => 108
  | .unary => 72
  | .factor => 107
  | .atom => 117
  | _ => 0
def rargsOf (bp : Nat) : Tr.Call → Array Value
  | .level n => #[.pointer (some ⟨bp, 0, none⟩), .int .i64 (n : Nat)]
  | _ => #[.pointer (some ⟨bp, 0, none⟩)]
def rSaid (bp : Nat) (A : Option Addr) (c : Nat) (ts : List Lx.Tok) (k : Tr.Call) (s : St) : Prop := ∀ w, RowAt w bp 66 A c ts s → Calls Try.prog (rfnOf k) (rargsOf bp k) w (rGives w bp A c ts (P ts k s))
theorem rgives_end {w W : World} {bp : Nat} {A : Option Addr} {c : Nat} {ts : List Lx.Tok} {r : Ex × St} {s0 : St} (h0 : RowAt w bp 66 A c ts s0) (hk : Took w bp 66 A c ts r.2 W) (A' : Option Addr) (c' : Nat) (hat : At W (fun b => w.heap.size < b) r.1 A') (x0 x1 x2 x3 : Value) :
    rGives w bp A c ts r (.returned (exAgg r.1 A' c')) ((((W.setCell ⟨w.heap.size, 0, none⟩ x0).setCell ⟨w.heap.size, 1, none⟩ x1).setCell ⟨w.heap.size, 2, none⟩ x2).setCell ⟨w.heap.size, 3, none⟩ x3) :=
  ⟨A', c', rfl, (hat.grown (grown_set4 (bp := bp) (.inr trivial) _ _ _ _) (Nat.lt_irrefl _)).base (fun b hb _ => Nat.le_of_lt hb), took_set4 hk.1 hk.2 h0 (Nat.le_refl _) _ _ _ _⟩
theorem rv_took2 {w W : World} {bp g : Nat} {A : Option Addr} {c : Nat} {ts : List Lx.Tok} {s s0 : St} (hk : Took w bp 66 A c ts s W) (h0 : RowAt w bp 66 A c ts s0) (hg : w.heap.size ≤ g) (o : Array Value) (x0 x1 x2 x3 : Value) : Took w bp 66 A c ts s (((((W.setCell ⟨g, 0, none⟩ x0).setCell ⟨g, 1, none⟩ x1).setCell ⟨g, 2, none⟩ x2).setCell ⟨g, 3, none⟩ x3).alloc (.cells o 43)) :=
  (took_set4 hk.1 hk.2 h0 hg _ _ _ _).alloc _
theorem rv_took {w W : World} {bp : Nat} {A : Option Addr} {c : Nat} {ts : List Lx.Tok} {s s0 : St} (hk : Took w bp 66 A c ts s W) (h0 : RowAt w bp 66 A c ts s0) (o : Array Value) (x0 x1 x2 x3 : Value) : Took w bp 66 A c ts s (((((W.setCell ⟨w.heap.size, 0, none⟩ x0).setCell ⟨w.heap.size, 1, none⟩ x1).setCell ⟨w.heap.size, 2, none⟩ x2).setCell ⟨w.heap.size, 3, none⟩ x3).alloc (.cells o 43)) :=
  (took_set4 hk.1 hk.2 h0 (Nat.le_refl _) _ _ _ _).alloc _
set_option maxHeartbeats 4000000 in
theorem runary_of (bp : Nat) (A : Option Addr) (c : Nat) (ts : List Lx.Tok) (s : St) (IH : ∀ (k : Tr.Call) (s' : St), (k = .unary ∨ k = .factor) → fuel ts k s' < fuel ts .unary s → rSaid bp A c ts k s') : rSaid bp A c ts .unary s := by
  intro w h
  have HR := Lib.hid h
  have HT := Lib.hid (fun W m h => rtake_any bp A c ts s m W h)
  have hbw := h.lt
  have HIH := Lib.hid IH
  obtain ⟨r, hr⟩ : ∃ r, r = P ts .unary s := ⟨_, rfl⟩
  rw [← hr]
  rw [P_unary] at hr
  clear h IH
  unfold rfnOf rargsOf
  dsimp only
  have HW0 : Hid (∀ V, Below w.heap.size w (w.alloc V)) := fun V => (Below.refl _ _).alloc (Nat.le_refl _) V
  rcases h1 : sees ts s [45] with _ | _
  rotate_left
  · rw [if_pos h1] at hr
    have HL := Lib.hid (sees_lt h1)
    have HSU := Lib.hid (HIH.out .unary s.adv (.inl rfl) (by have := HL.out.2; simp only [fuel, rank, adv_at]; omega))
    have HT1 := Lib.hid (fun W h => HT.out W [45] h)
    rw [h1, if_pos rfl] at HT1
    clear h1
    generalize hq : P ts .unary s.adv = q at *
    have HSU1 : Hid (∀ w, RowAt w bp 66 A c ts s.adv → Calls Try.prog 72 #[.pointer (some ⟨bp, 0, none⟩)] w (rGives w bp A c ts q)) := by unfold RowKit.Hid; rw [← hq]; exact HSU.out
    clear hq HSU
    obtain ⟨x, s'⟩ := q
    subst hr
    go_enter Try.func72, Try.ntmps72
    go_wp2_with fail
    obtain ⟨W0, hW0⟩ : ∃ W0, W0 = w.alloc (.cells zrow 43) := ⟨_, rfl⟩
    unfold zrow at hW0
    rw [← hW0]
    have HB0 : Hid (Below w.heap.size w W0) := by rw [hW0]; exact HW0.out _
    have HZ0 : Hid (W0.heap[w.heap.size]? = some (.cells zrow 43 (0, 0))) := by rw [hW0]; exact heap_alloc_new _ _
    have HK0 : Hid (Took w bp 66 A c ts s W0) := (took_refl HR.out).below HB0.out
    clear hW0
    refine (HT1.out _ HK0.out.1).mono ?_
    rintro e w1 ⟨rfl, hk1⟩
    have HK1 := Lib.hid (HK0.out.trans hk1)
    have HZ1 := Lib.hid (hk1.row HZ0.out (by omega))
    clear hk1 HZ0 HK0
    go_wp2_with fail
    refine (HSU1.out _ HK1.out.1).mono ?_
    rintro e w2 ⟨A2, c2, rfl, hat, hk2⟩
    have HK2 := Lib.hid (HK1.out.trans hk2)
    have HZ2 := Lib.hid (hk2.row HZ1.out (by omega))
    have hz2 := (Array.getElem?_eq_some_iff.1 HZ2.out).1
    have hz1 := (Array.getElem?_eq_some_iff.1 HZ1.out).1
    have HAT := Lib.hid (hat.base (B' := fun b => w.heap.size < b) (fun b hb _ => Nat.lt_of_lt_of_le hz1 hb))
    clear hat hk2 HK1 HZ1
    unfold exAgg
    dsimp only
    obtain ⟨k0, k1, k2, k3, f0, f1, f2, f3⟩ := row4 HZ2.out
    go_wp2_with fail
    refine ret_row 2 rfl rfl rfl (v_res HZ2.out _ _ _ _ _) Try.underlying43 infoExS ⟨some ⟨w2.heap.size, 0, none⟩, 1, rfl, ?_, rv_took HK2.out HR.out _ _ _ _ _⟩
    dsimp only
    rw [at_eq]
    exact atL1 (v_row _ _ _ _ _) (Nat.le_of_lt hz2) (v_at _ _ _ _ _ HAT.out)
  rw [if_neg (by rw [h1]; decide)] at hr
  have HTN := Lib.hid (fun W h => HT.out W [45] h)
  rw [h1, if_neg (by decide)] at HTN
  clear h1
  rcases h2 : sees ts s wNot with _ | _
  rotate_left
  · rw [if_pos h2] at hr
    have HL := Lib.hid (sees_lt h2)
    have HSU := Lib.hid (HIH.out .unary s.adv (.inl rfl) (by have := HL.out.2; simp only [fuel, rank, adv_at]; omega))
    have HT1 := Lib.hid (fun W h => HT.out W wNot h)
    rw [h2, if_pos rfl] at HT1
    clear h2
    unfold wNot at HT1
    generalize hq : P ts .unary s.adv = q at *
    have HSU1 : Hid (∀ w, RowAt w bp 66 A c ts s.adv → Calls Try.prog 72 #[.pointer (some ⟨bp, 0, none⟩)] w (rGives w bp A c ts q)) := by unfold RowKit.Hid; rw [← hq]; exact HSU.out
    clear hq HSU
    obtain ⟨x, s'⟩ := q
    subst hr
    go_enter Try.func72, Try.ntmps72
    go_wp2_with fail
    obtain ⟨W0, hW0⟩ : ∃ W0, W0 = w.alloc (.cells zrow 43) := ⟨_, rfl⟩
    unfold zrow at hW0
    rw [← hW0]
    have HB0 : Hid (Below w.heap.size w W0) := by rw [hW0]; exact HW0.out _
    have HZ0 : Hid (W0.heap[w.heap.size]? = some (.cells zrow 43 (0, 0))) := by rw [hW0]; exact heap_alloc_new _ _
    have HK0 : Hid (Took w bp 66 A c ts s W0) := (took_refl HR.out).below HB0.out
    clear hW0
    refine (HTN.out _ HK0.out.1).mono ?_
    rintro e w0 ⟨rfl, hk0⟩
    have HK00 := Lib.hid (HK0.out.trans hk0)
    have HZ00 := Lib.hid (hk0.row HZ0.out (by omega))
    clear hk0 HZ0 HK0
    have HK0 := HK00
    have HZ0 := HZ00
    clear HK00 HZ00
    go_wp2_with fail
    refine (HT1.out _ HK0.out.1).mono ?_
    rintro e w1 ⟨rfl, hk1⟩
    have HK1 := Lib.hid (HK0.out.trans hk1)
    have HZ1 := Lib.hid (hk1.row HZ0.out (by omega))
    clear hk1 HZ0 HK0
    go_wp2_with fail
    refine (HSU1.out _ HK1.out.1).mono ?_
    rintro e w2 ⟨A2, c2, rfl, hat, hk2⟩
    have HK2 := Lib.hid (HK1.out.trans hk2)
    have HZ2 := Lib.hid (hk2.row HZ1.out (by omega))
    have hz2 := (Array.getElem?_eq_some_iff.1 HZ2.out).1
    have hz1 := (Array.getElem?_eq_some_iff.1 HZ1.out).1
    have HAT := Lib.hid (hat.base (B' := fun b => w.heap.size < b) (fun b hb _ => Nat.lt_of_lt_of_le hz1 hb))
    clear hat hk2 HK1 HZ1
    unfold exAgg
    dsimp only
    obtain ⟨k0, k1, k2, k3, f0, f1, f2, f3⟩ := row4 HZ2.out
    go_wp2_with fail
    refine ret_row 2 rfl rfl rfl (v_res HZ2.out _ _ _ _ _) Try.underlying43 infoExS ⟨some ⟨w2.heap.size, 0, none⟩, 1, rfl, ?_, rv_took HK2.out HR.out _ _ _ _ _⟩
    dsimp only
    rw [at_eq]
    exact atL1 (v_row _ _ _ _ _) (Nat.le_of_lt hz2) (v_at _ _ _ _ _ HAT.out)
  · rw [if_neg (by rw [h2]; decide)] at hr
    have HT1 := Lib.hid (fun W h => HT.out W wNot h)
    rw [h2, if_neg (by decide)] at HT1
    unfold wNot at HT1
    have HSU := Lib.hid (HIH.out .factor s (.inr rfl) (by simp [fuel, rank]))
    clear h2
    generalize hq : P ts .factor s = q at *
    have HSU1 : Hid (∀ w, RowAt w bp 66 A c ts s → Calls Try.prog 107 #[.pointer (some ⟨bp, 0, none⟩)] w (rGives w bp A c ts q)) := by unfold RowKit.Hid; rw [← hq]; exact HSU.out
    clear hq HSU
    obtain ⟨x, s'⟩ := q
    subst hr
    go_enter Try.func72, Try.ntmps72
    go_wp2_with fail
    obtain ⟨W0, hW0⟩ : ∃ W0, W0 = w.alloc (.cells zrow 43) := ⟨_, rfl⟩
    unfold zrow at hW0
    rw [← hW0]
    have HB0 : Hid (Below w.heap.size w W0) := by rw [hW0]; exact HW0.out _
    have HZ0 : Hid (W0.heap[w.heap.size]? = some (.cells zrow 43 (0, 0))) := by rw [hW0]; exact heap_alloc_new _ _
    have HK0 : Hid (Took w bp 66 A c ts s W0) := (took_refl HR.out).below HB0.out
    clear hW0
    refine (HTN.out _ HK0.out.1).mono ?_
    rintro e w0 ⟨rfl, hk0⟩
    have HK00 := Lib.hid (HK0.out.trans hk0)
    have HZ00 := Lib.hid (hk0.row HZ0.out (by omega))
    clear hk0 HZ0 HK0
    have HK0 := HK00
    have HZ0 := HZ00
    clear HK00 HZ00
    go_wp2_with fail
    refine (HT1.out _ HK0.out.1).mono ?_
    rintro e w1 ⟨rfl, hk1⟩
    have HK1 := Lib.hid (HK0.out.trans hk1)
    have HZ1 := Lib.hid (hk1.row HZ0.out (by omega))
    clear hk1 HZ0 HK0
    go_wp2_with fail
    refine (HSU1.out _ HK1.out.1).mono ?_
    rintro e w2 ⟨A2, c2, rfl, hat, hk2⟩
    have HK2 := Lib.hid (HK1.out.trans hk2)
    have HZ2 := Lib.hid (hk2.row HZ1.out (by omega))
    have hz1 := (Array.getElem?_eq_some_iff.1 HZ1.out).1
    have HAT := Lib.hid (hat.base (B' := fun b => w.heap.size < b) (fun b hb _ => Nat.lt_of_lt_of_le hz1 hb))
    clear hat hk2 HK1 HZ1
    unfold exAgg
    dsimp only
    obtain ⟨k0, k1, k2, k3, f0, f1, f2, f3⟩ := row4 HZ2.out
    go_wp2_with fail
    exact ret_row 2 rfl rfl rfl (setrow4 HZ2.out _ _ _ _) Try.underlying43 infoExS (rgives_end HR.out HK2.out A2 c2 HAT.out _ _ _ _)
end Go.Proofs.Ytilkilffkjhhbaa
namespace Go.Proofs.Ytilkilffkjhhbaa
set_option maxRecDepth 20000
set_option linter.unusedVariables false
open Go.RowKit Tr Mem

set_option maxHeartbeats 8000000 in
theorem rexpr_of (bp : Nat) (A : Option Addr) (c : Nat) (ts : List Lx.Tok) (s : St) (IH : ∀ (k : Tr.Call) (s' : St), (k = .level 0 ∨ k = .expr) → fuel ts k s' < fuel ts .expr s → rSaid bp A c ts k s') : rSaid bp A c ts .expr s := by
  intro w h
  have HR := Lib.hid h
  have hbw := h.lt
  have HIH := Lib.hid IH
  obtain ⟨r, hr⟩ : ∃ r, r = P ts .expr s := ⟨_, rfl⟩
  rw [← hr]
  rw [P_expr] at hr
  have HA := Lib.hid (P_at (ts := ts) (.level 0) s)
  have HS0 := Lib.hid (HIH.out (.level 0) s (.inl rfl) (by simp [fuel, rank]))
  clear h IH
  unfold rfnOf rargsOf
  dsimp only
  have HW0 : Hid (∀ V, Below w.heap.size w (w.alloc V)) := fun V => (Below.refl _ _).alloc (Nat.le_refl _) V
  generalize hq : P ts (.level 0) s = q at *
  have HSL : Hid (∀ w, RowAt w bp 66 A c ts s → Calls Try.prog 108 #[.pointer (some ⟨bp, 0, none⟩), .int .i64 0] w (rGives w bp A c ts q)) := by unfold RowKit.Hid; rw [← hq]; exact HS0.out
  clear hq HS0
  obtain ⟨x, s1⟩ := q
  dsimp only at *
  have HT := Lib.hid (fun W h => rtake_any bp A c ts s1 arrow W h)
  unfold arrow at HT
  have hxa : sees ts s1 arrow = sees ts s1 [45, 62] := rfl
  rw [hxa] at hr
  rcases h1 : sees ts s1 [45, 62] with _ | _
  · rw [if_neg (by rw [h1]; decide)] at hr
    rw [h1, if_neg (by decide)] at HT
    subst hr
    clear h1
    go_enter Try.func74, Try.ntmps74
    go_wp2_with fail
    obtain ⟨W0, hW0⟩ : ∃ W0, W0 = w.alloc (.cells zrow 43) := ⟨_, rfl⟩
    unfold zrow at hW0
    rw [← hW0]
    have HB0 : Hid (Below w.heap.size w W0) := by rw [hW0]; exact HW0.out _
    have HZ0 : Hid (W0.heap[w.heap.size]? = some (.cells zrow 43 (0, 0))) := by rw [hW0]; exact heap_alloc_new _ _
    have HK0 : Hid (Took w bp 66 A c ts s W0) := (took_refl HR.out).below HB0.out
    clear hW0
    have hzz1 := (Array.getElem?_eq_some_iff.1 HZ0.out).1
    refine (HSL.out _ HK0.out.1).mono ?_
    rintro e w1 ⟨Ax, cx, rfl, hat, hk⟩
    have HY2 := Lib.hid (hk.row HZ0.out (by omega))
    have HK3 := Lib.hid (HK0.out.trans hk)
    clear HZ0 HK0
    have HX4 := Lib.hid (hat.base (B' := fun b => w.heap.size < b) (fun b hb hl => Nat.lt_of_lt_of_le hzz1 hb))
    clear hat hk
    unfold exAgg
    dsimp only
    go_wp2_with fail
    obtain ⟨W5, hW⟩ : ∃ W, W = w1.alloc (.cells #[.int .i64 x.kind, .int .i32 x.n, .string ⟨x.name.toArray⟩, .slice Ax x.sub.length cx] 43) := ⟨_, rfl⟩
    rw [← hW]
    have hbx : Below w1.heap.size w1 W5 := by rw [hW]; exact (Below.refl _ _).alloc (Nat.le_refl _) _
    have HN5 : Hid (W5.heap[w1.heap.size]? = some (.cells #[.int .i64 x.kind, .int .i32 x.n, .string ⟨x.name.toArray⟩, .slice Ax x.sub.length cx] 43 (0, 0))) := by rw [hW]; exact heap_alloc_new _ _
    have hlo5 : w.heap.size < w1.heap.size := (Array.getElem?_eq_some_iff.1 HY2.out).1
    clear hW
    have HY6 := Lib.hid ((hbx.block _ (Array.getElem?_eq_some_iff.1 HY2.out).1).trans HY2.out)
    have HX7 := Lib.hid (HX4.out.below hbx (Nat.le_refl _))
    have HK8 := Lib.hid (HK3.out.below hbx)
    clear HY2 HX4 HK3
    clear hbx
    refine (HT.out _ HK8.out.1).mono ?_
    rintro e w9 ⟨rfl, hk⟩
    have HY10 := Lib.hid (hk.row HY6.out (by omega))
    have HY11 := Lib.hid (hk.row HN5.out (by omega))
    have HX12 := Lib.hid (HX7.out.took hk (by omega))
    have HK13 := Lib.hid (HK8.out.trans hk)
    clear HY6 HN5 HX7 HK8
    clear hk
    obtain ⟨k0, k1, k2, k3, k4, k5, k6, k7⟩ := row4 HY10.out
    obtain ⟨m0, m1, m2, m3, m4, m5, m6, m7⟩ := row4 HY11.out
    go_wp2_with fail
    exact ret_row 2 rfl rfl rfl (setrow4 HY10.out _ _ _ _) Try.underlying43 infoExS (rgives_end HR.out HK13.out Ax cx HX12.out _ _ _ _)
  · rw [if_pos h1] at hr
    have HL := Lib.hid (sees_lt h1)
    rw [h1, if_pos rfl] at HT
    have HS1 := Lib.hid (HIH.out .expr s1.adv (.inr rfl) (by have := HL.out.2; have := HA.out; simp only [fuel, rank, adv_at]; omega))
    clear h1
    generalize hq : P ts .expr s1.adv = q at *
    have HSE : Hid (∀ w, RowAt w bp 66 A c ts s1.adv → Calls Try.prog 74 #[.pointer (some ⟨bp, 0, none⟩)] w (rGives w bp A c ts q)) := by unfold RowKit.Hid; rw [← hq]; exact HS1.out
    clear hq HS1
    obtain ⟨y, s2⟩ := q
    subst hr
    dsimp only
    go_enter Try.func74, Try.ntmps74
    go_wp2_with fail
    obtain ⟨W0, hW0⟩ : ∃ W0, W0 = w.alloc (.cells zrow 43) := ⟨_, rfl⟩
    unfold zrow at hW0
    rw [← hW0]
    have HB0 : Hid (Below w.heap.size w W0) := by rw [hW0]; exact HW0.out _
    have HZ0 : Hid (W0.heap[w.heap.size]? = some (.cells zrow 43 (0, 0))) := by rw [hW0]; exact heap_alloc_new _ _
    have HK0 : Hid (Took w bp 66 A c ts s W0) := (took_refl HR.out).below HB0.out
    clear hW0
    have hzz1 := (Array.getElem?_eq_some_iff.1 HZ0.out).1
    refine (HSL.out _ HK0.out.1).mono ?_
    rintro e w1 ⟨Ax, cx, rfl, hat, hk⟩
    have HY2 := Lib.hid (hk.row HZ0.out (by omega))
    have HK3 := Lib.hid (HK0.out.trans hk)
    clear HZ0 HK0
    have HX4 := Lib.hid (hat.base (B' := fun b => w.heap.size < b) (fun b hb hl => Nat.lt_of_lt_of_le hzz1 hb))
    clear hat hk
    unfold exAgg
    dsimp only
    go_wp2_with fail
    obtain ⟨W5, hW⟩ : ∃ W, W = w1.alloc (.cells #[.int .i64 x.kind, .int .i32 x.n, .string ⟨x.name.toArray⟩, .slice Ax x.sub.length cx] 43) := ⟨_, rfl⟩
    rw [← hW]
    have hbx : Below w1.heap.size w1 W5 := by rw [hW]; exact (Below.refl _ _).alloc (Nat.le_refl _) _
    have HN5 : Hid (W5.heap[w1.heap.size]? = some (.cells #[.int .i64 x.kind, .int .i32 x.n, .string ⟨x.name.toArray⟩, .slice Ax x.sub.length cx] 43 (0, 0))) := by rw [hW]; exact heap_alloc_new _ _
    have hlo5 : w.heap.size < w1.heap.size := (Array.getElem?_eq_some_iff.1 HY2.out).1
    clear hW
    have HY6 := Lib.hid ((hbx.block _ (Array.getElem?_eq_some_iff.1 HY2.out).1).trans HY2.out)
    have HX7 := Lib.hid (HX4.out.below hbx (Nat.le_refl _))
    have HK8 := Lib.hid (HK3.out.below hbx)
    clear HY2 HX4 HK3
    clear hbx
    refine (HT.out _ HK8.out.1).mono ?_
    rintro e w9 ⟨rfl, hk⟩
    have HY10 := Lib.hid (hk.row HY6.out (by omega))
    have HY11 := Lib.hid (hk.row HN5.out (by omega))
    have HX12 := Lib.hid (HX7.out.took hk (by omega))
    have HK13 := Lib.hid (HK8.out.trans hk)
    clear HY6 HN5 HX7 HK8
    clear hk
    go_wp2_with fail
    have hzz14 := (Array.getElem?_eq_some_iff.1 HY10.out).1
    have hzHY11_14 := (Array.getElem?_eq_some_iff.1 HY11.out).1
    refine (HSE.out _ HK13.out.1).mono ?_
    rintro e w14 ⟨Ay, cy, rfl, hat, hk⟩
    have HY15 := Lib.hid (hk.row HY10.out (by omega))
    have HY16 := Lib.hid (hk.row HY11.out (by omega))
    have HX17 := Lib.hid (HX12.out.took hk (by omega))
    have HK18 := Lib.hid (HK13.out.trans hk)
    clear HY10 HY11 HX12 HK13
    have HX19 := Lib.hid (hat.base (B' := fun b => w.heap.size < b) (fun b hb hl => Nat.lt_of_lt_of_le hzz14 hb))
    clear hat hk
    unfold exAgg
    dsimp only
    go_upto_region 4 with (fail)
    obtain ⟨W20, hW⟩ : ∃ W, W = w14.alloc (.cells #[.int .i64 y.kind, .int .i32 y.n, .string ⟨y.name.toArray⟩, .slice Ay y.sub.length cy] 43) := ⟨_, rfl⟩
    rw [← hW]
    have hbx : Below w14.heap.size w14 W20 := by rw [hW]; exact (Below.refl _ _).alloc (Nat.le_refl _) _
    have HN20 : Hid (W20.heap[w14.heap.size]? = some (.cells #[.int .i64 y.kind, .int .i32 y.n, .string ⟨y.name.toArray⟩, .slice Ay y.sub.length cy] 43 (0, 0))) := by rw [hW]; exact heap_alloc_new _ _
    have hlo20 : w.heap.size < w14.heap.size := (Array.getElem?_eq_some_iff.1 HY15.out).1
    clear hW
    have HY21 := Lib.hid ((hbx.block _ (Array.getElem?_eq_some_iff.1 HY15.out).1).trans HY15.out)
    have HY22 := Lib.hid ((hbx.block _ (Array.getElem?_eq_some_iff.1 HY16.out).1).trans HY16.out)
    have HX23 := Lib.hid (HX17.out.below hbx (Nat.le_refl _))
    have HX24 := Lib.hid (HX19.out.below hbx (Nat.le_refl _))
    have HK25 := Lib.hid (HK18.out.below hbx)
    clear HY15 HY16 HX17 HX19 HK18
    clear hbx
    obtain ⟨k0, k1, k2, k3, k4, k5, k6, k7⟩ := row4 HY21.out
    obtain ⟨m0, m1, m2, m3, m4, m5, m6, m7⟩ := row4 HY22.out
    obtain ⟨q0, q1, q2, q3, q4, q5, q6, q7⟩ := row4 HN20.out
    have hzz9 := (Array.getElem?_eq_some_iff.1 HY21.out).1
    go_wp2_with fail
    refine ret_row 2 rfl rfl rfl (v_res HY21.out _ _ _ _ _) Try.underlying43 infoExS ⟨some ⟨W20.heap.size, 0, none⟩, 2, rfl, ?_, rv_took HK25.out HR.out _ _ _ _ _⟩
    dsimp only
    rw [at_eq]
    exact atL2 (v_row _ _ _ _ _) (Nat.le_of_lt hzz9) (v_at _ _ _ _ _ HX23.out) (v_at _ _ _ _ _ HX24.out)
end Go.Proofs.Ytilkilffkjhhbaa
namespace Go.Proofs.Ytilkilffkjhhbaa
set_option maxRecDepth 20000
set_option linter.unusedVariables false
open Go.RowKit Tr Mem

/-- what holds at the head of factor's loop -/
def rFacAt (w : World) (bp g3 : Nat) (A : Option Addr) (c : Nat) (ts : List Lx.Tok) (r : Ex × St) (x : Ex) (s : St) (Ax : Option Addr) (cx : Nat) (W : World) : Prop :=
  r = P ts (.floop x) s ∧ Took w bp 66 A c ts s W ∧ W.heap[w.heap.size]? = some (.cells zrow 43 (0, 0)) ∧ W.heap[g3]? = some (.cells #[.int .i64 x.kind, .int .i32 x.n, .string ⟨x.name.toArray⟩, .slice Ax x.sub.length cx] 43 (0, 0)) ∧ At W (fun b => w.heap.size < b ∧ b ≠ g3) x Ax
set_option maxRecDepth 100000 in
set_option maxHeartbeats 16000000 in
theorem rfactor_of (bp : Nat) (A : Option Addr) (c : Nat) (ts : List Lx.Tok) (s : St) (IH : ∀ (k : Tr.Call) (s' : St), k = .atom → fuel ts k s' < fuel ts .factor s → rSaid bp A c ts k s') : rSaid bp A c ts .factor s := by
  intro w h
  have HR := Lib.hid h
  have hbw := h.lt
  have hlen := h.len
  obtain ⟨r, hr⟩ : ∃ r, r = P ts .factor s := ⟨_, rfl⟩
  rw [← hr]
  rw [P_factor] at hr
  have HS0 := Lib.hid (IH .atom s rfl (by simp [fuel, rank]))
  clear h IH
  unfold rfnOf rargsOf
  dsimp only
  have HW0 : Hid (∀ V, Below w.heap.size w (w.alloc V)) := fun V => (Below.refl _ _).alloc (Nat.le_refl _) V
  generalize hq : P ts .atom s = q at *
  have HSA : Hid (∀ w, RowAt w bp 66 A c ts s → Calls Try.prog 117 #[.pointer (some ⟨bp, 0, none⟩)] w (rGives w bp A c ts q)) := by unfold RowKit.Hid; rw [← hq]; exact HS0.out
  clear hq HS0
  obtain ⟨x, s1⟩ := q
  dsimp only at *
  have HRR := Lib.hid hr
  clear hr
  have HTK := Lib.hid (fun W s m h => rtake_any bp A c ts s m W h)

  go_enter Try.func107, Try.ntmps107
  go_wp2_with fail
  obtain ⟨W0, hW0⟩ : ∃ W0, W0 = w.alloc (.cells zrow 43) := ⟨_, rfl⟩
  unfold zrow at hW0
  rw [← hW0]
  have HB0 : Hid (Below w.heap.size w W0) := by rw [hW0]; exact HW0.out _
  have HZ0 : Hid (W0.heap[w.heap.size]? = some (.cells zrow 43 (0, 0))) := by rw [hW0]; exact heap_alloc_new _ _
  have HK0 : Hid (Took w bp 66 A c ts s W0) := (took_refl HR.out).below HB0.out
  clear hW0
  have hzz1 := (Array.getElem?_eq_some_iff.1 HZ0.out).1
  refine (HSA.out _ HK0.out.1).mono ?_
  rintro e w1 ⟨Ax, cx, rfl, hat, hk⟩
  have HY2 := Lib.hid (hk.row HZ0.out (by omega))
  have HK3 := Lib.hid (HK0.out.trans hk)
  clear HZ0 HK0
  have HX4 := Lib.hid (hat.base (B' := fun b => w.heap.size < b ∧ b ≠ w1.heap.size) (fun b hb hl => ⟨Nat.lt_of_lt_of_le hzz1 hb, Nat.ne_of_lt hl⟩))
  clear hat hk
  unfold exAgg
  dsimp only
  go_wp2_with fail
  obtain ⟨W5, hW⟩ : ∃ W, W = w1.alloc (.cells #[.int .i64 x.kind, .int .i32 x.n, .string ⟨x.name.toArray⟩, .slice Ax x.sub.length cx] 43) := ⟨_, rfl⟩
  rw [← hW]
  have hbx : Below w1.heap.size w1 W5 := by rw [hW]; exact (Below.refl _ _).alloc (Nat.le_refl _) _
  have HN5 : Hid (W5.heap[w1.heap.size]? = some (.cells #[.int .i64 x.kind, .int .i32 x.n, .string ⟨x.name.toArray⟩, .slice Ax x.sub.length cx] 43 (0, 0))) := by rw [hW]; exact heap_alloc_new _ _
  have hlo5 : w.heap.size < w1.heap.size := (Array.getElem?_eq_some_iff.1 HY2.out).1
  clear hW
  have HY6 := Lib.hid ((hbx.block _ (Array.getElem?_eq_some_iff.1 HY2.out).1).trans HY2.out)
  have HX7 := Lib.hid (HX4.out.below hbx (Nat.le_refl _))
  have HK8 := Lib.hid (HK3.out.below hbx)
  clear HY2 HX4 HK3
  clear hbx
  have HF0 : Hid (rFacAt w bp w1.heap.size A c ts r x s1 Ax cx W5) := ⟨HRR.out, HK8.out, HY6.out, HN5.out, HX7.out⟩
  clear HK8 HY6 HN5 HX7 HRR
  go_loopw [4] (fun _ wr => ∃ (x : Ex) (s : St) (Ax : Option Addr) (cx : Nat), Hid (rFacAt w bp w1.heap.size A c ts r x s Ax cx wr)) (fun _ wr => ts.length - atOf wr bp)
  case atStart => exact ⟨x, s1, Ax, cx, HF0.out⟩
  case round =>
    clear HF0
    obtain ⟨x, s1, Ax, cx, HF⟩ := hrel
    obtain ⟨hrr, hk0, hz0, hm0, hx0⟩ := HF.out
    have HK := Lib.hid hk0
    have HZ := Lib.hid hz0
    have HM := Lib.hid hm0
    have HX := Lib.hid hx0
    have hat0 := hk0.1.atOf
    have HAT0 := Lib.hid hat0
    rw [P_floop] at hrr
    clear hk0 hz0 hm0 hx0 hat0
    clear HF
    have HT1 := Lib.hid (fun W h => HTK.out W s1 wWhen h)
    unfold wWhen at HT1
    have hw1 : sees ts s1 wWhen = sees ts s1 [119, 104, 101, 110] := rfl
    have hw2 : sees ts s1 wUnless = sees ts s1 [117, 110, 108, 101, 115, 115] := rfl
    rw [hw1, hw2] at hrr
    clear hw1 hw2
    rcases h1 : sees ts s1 [119, 104, 101, 110] with _ | _
    rotate_left
    · rw [if_pos h1] at hrr
      have HL := Lib.hid (sees_lt h1)
      have HRR := Lib.hid hrr
      rw [h1, if_pos rfl] at HT1
      clear h1 hrr
      go_wp2_with fail
      refine (HT1.out _ HK.out.1).mono ?_
      rintro e wx ⟨rfl, hk⟩
      have HK2 := Lib.hid (HK.out.trans hk)
      have HZ2 := Lib.hid (hk.row HZ.out (by omega))
      have HM2 := Lib.hid (hk.row HM.out (by omega))
      have HX2 := Lib.hid (HX.out.took hk (by omega))
      clear hk HK HZ HM HX
      have hg3 : w1.heap.size < wx.heap.size := (Array.getElem?_eq_some_iff.1 HM2.out).1
      have HNA := Lib.hid (token_at (ts := ts) s1.adv 1)
      have HC := Lib.hid (fun W h => rkind_any bp A c ts s1.adv 1 W h)
      unfold Tr.name at HRR
      unfold tokAgg at HC
      generalize hnm : token ts s1.adv 1 = tk at *
      obtain ⟨⟨kd, nm, nn, pl⟩, s2⟩ := tk
      clear hnm
      dsimp only at *
      go_wp2_with fail
      refine (HC.out _ HK2.out.1).mono ?_
      rintro e w101 ⟨rfl, hk⟩
      have HY102 := Lib.hid (hk.row HZ2.out (by omega))
      have HY103 := Lib.hid (hk.row HM2.out (by omega))
      have HX104 := Lib.hid (HX2.out.took hk (by omega))
      have HK105 := Lib.hid (HK2.out.trans hk)
      clear HZ2 HM2 HX2 HK2
      clear hk
      go_upto_region 9 with (fail)
      obtain ⟨W106, hW⟩ : ∃ W, W = w101.alloc (.cells #[.int .i64 kd, .string ⟨nm.toArray⟩, .int .i32 nn, .int .i64 pl] 40) := ⟨_, rfl⟩
      rw [← hW]
      have hbx : Below w101.heap.size w101 W106 := by rw [hW]; exact (Below.refl _ _).alloc (Nat.le_refl _) _
      have HN106 : Hid (W106.heap[w101.heap.size]? = some (.cells #[.int .i64 kd, .string ⟨nm.toArray⟩, .int .i32 nn, .int .i64 pl] 40 (0, 0))) := by rw [hW]; exact heap_alloc_new _ _
      have hlo106 : w.heap.size < w101.heap.size := (Array.getElem?_eq_some_iff.1 HY102.out).1
      clear hW
      have HY107 := Lib.hid ((hbx.block _ (Array.getElem?_eq_some_iff.1 HY102.out).1).trans HY102.out)
      have HY108 := Lib.hid ((hbx.block _ (Array.getElem?_eq_some_iff.1 HY103.out).1).trans HY103.out)
      have HX109 := Lib.hid (HX104.out.below hbx (Nat.le_refl _))
      have HK110 := Lib.hid (HK105.out.below hbx)
      clear HY102 HY103 HX104 HK105
      clear hbx
      obtain ⟨m0, m1, m2, m3, m4, m5, m6, m7⟩ := row4 HY108.out
      obtain ⟨q0, q1, q2, q3, q4, q5, q6, q7⟩ := row4 HN106.out
      have hm9 := (Array.getElem?_eq_some_iff.1 HY108.out).1
      have hz9 := (Array.getElem?_eq_some_iff.1 HY107.out).1
      go_wp2_with fail
      have hkv := rv_took2 HK110.out HR.out (g := w1.heap.size) (Nat.le_of_lt (by omega)) #[.int .i64 x.kind, .int .i32 x.n, .string ⟨x.name.toArray⟩, .slice Ax x.sub.length cx] (.int .i64 8) (.int .i32 0) (.string ⟨nm.toArray⟩) (.slice (some ⟨W106.heap.size, 0, none⟩) 1 1)
      have hat := hkv.1.atOf
      have HKV := Lib.hid hkv
      clear hkv
      go_roundw
      case rel => exact ⟨.mk 8 0 nm [x], s2, some ⟨W106.heap.size, 0, none⟩, 1, HRR.out, HKV.out, v_keep HY107.out (by omega) _ _ _ _ _, v_res HY108.out _ _ _ _ _, by rw [at_eq]; exact atL1 (v_row _ _ _ _ _) ⟨hz9, by omega⟩ (v_atk _ _ _ _ _ HX109.out (fun h => h.2 rfl))⟩
      case measure => rw [hat, HAT0.out]; have := HL.out.2; have := HNA.out; rw [adv_at] at this; omega
    rw [if_neg (by rw [h1]; decide)] at hrr
    rw [h1, if_neg (by decide)] at HT1
    clear h1
    have HT2 := Lib.hid (fun W h => HTK.out W s1 wUnless h)
    unfold wUnless at HT2
    rcases h1 : sees ts s1 [117, 110, 108, 101, 115, 115] with _ | _
    rotate_left
    · rw [if_pos h1] at hrr
      have HL := Lib.hid (sees_lt h1)
      have HRR := Lib.hid hrr
      rw [h1, if_pos rfl] at HT2
      clear h1 hrr
      go_wp2_with fail
      refine (HT1.out _ HK.out.1).mono ?_
      rintro e wy ⟨rfl, hk⟩
      have HK1 := Lib.hid (HK.out.trans hk)
      have HZ1 := Lib.hid (hk.row HZ.out (by omega))
      have HM1 := Lib.hid (hk.row HM.out (by omega))
      have HX1 := Lib.hid (HX.out.took hk (by omega))
      clear hk HK HZ HM HX
      go_wp2_with fail
      refine (HT2.out _ HK1.out.1).mono ?_
      rintro e wx ⟨rfl, hk⟩
      have HK2 := Lib.hid (HK1.out.trans hk)
      have HZ2 := Lib.hid (hk.row HZ1.out (by omega))
      have HM2 := Lib.hid (hk.row HM1.out (by omega))
      have HX2 := Lib.hid (HX1.out.took hk (by omega))
      clear hk HK1 HZ1 HM1 HX1
      have hg3 : w1.heap.size < wx.heap.size := (Array.getElem?_eq_some_iff.1 HM2.out).1
      have HNA := Lib.hid (token_at (ts := ts) s1.adv 1)
      have HC := Lib.hid (fun W h => rkind_any bp A c ts s1.adv 1 W h)
      unfold Tr.name at HRR
      unfold tokAgg at HC
      generalize hnm : token ts s1.adv 1 = tk at *
      obtain ⟨⟨kd, nm, nn, pl⟩, s2⟩ := tk
      clear hnm
      dsimp only at *
      go_wp2_with fail
      refine (HC.out _ HK2.out.1).mono ?_
      rintro e w101 ⟨rfl, hk⟩
      have HY102 := Lib.hid (hk.row HZ2.out (by omega))
      have HY103 := Lib.hid (hk.row HM2.out (by omega))
      have HX104 := Lib.hid (HX2.out.took hk (by omega))
      have HK105 := Lib.hid (HK2.out.trans hk)
      clear HZ2 HM2 HX2 HK2
      clear hk
      go_upto_region 9 with (fail)
      obtain ⟨W106, hW⟩ : ∃ W, W = w101.alloc (.cells #[.int .i64 kd, .string ⟨nm.toArray⟩, .int .i32 nn, .int .i64 pl] 40) := ⟨_, rfl⟩
      rw [← hW]
      have hbx : Below w101.heap.size w101 W106 := by rw [hW]; exact (Below.refl _ _).alloc (Nat.le_refl _) _
      have HN106 : Hid (W106.heap[w101.heap.size]? = some (.cells #[.int .i64 kd, .string ⟨nm.toArray⟩, .int .i32 nn, .int .i64 pl] 40 (0, 0))) := by rw [hW]; exact heap_alloc_new _ _
      have hlo106 : w.heap.size < w101.heap.size := (Array.getElem?_eq_some_iff.1 HY102.out).1
      clear hW
      have HY107 := Lib.hid ((hbx.block _ (Array.getElem?_eq_some_iff.1 HY102.out).1).trans HY102.out)
      have HY108 := Lib.hid ((hbx.block _ (Array.getElem?_eq_some_iff.1 HY103.out).1).trans HY103.out)
      have HX109 := Lib.hid (HX104.out.below hbx (Nat.le_refl _))
      have HK110 := Lib.hid (HK105.out.below hbx)
      clear HY102 HY103 HX104 HK105
      clear hbx
      obtain ⟨m0, m1, m2, m3, m4, m5, m6, m7⟩ := row4 HY108.out
      obtain ⟨q0, q1, q2, q3, q4, q5, q6, q7⟩ := row4 HN106.out
      have hm9 := (Array.getElem?_eq_some_iff.1 HY108.out).1
      have hz9 := (Array.getElem?_eq_some_iff.1 HY107.out).1
      go_wp2_with fail
      have hkv := rv_took2 HK110.out HR.out (g := w1.heap.size) (Nat.le_of_lt (by omega)) #[.int .i64 x.kind, .int .i32 x.n, .string ⟨x.name.toArray⟩, .slice Ax x.sub.length cx] (.int .i64 9) (.int .i32 0) (.string ⟨nm.toArray⟩) (.slice (some ⟨W106.heap.size, 0, none⟩) 1 1)
      have hat := hkv.1.atOf
      have HKV := Lib.hid hkv
      clear hkv
      go_roundw
      case rel => exact ⟨.mk 9 0 nm [x], s2, some ⟨W106.heap.size, 0, none⟩, 1, HRR.out, HKV.out, v_keep HY107.out (by omega) _ _ _ _ _, v_res HY108.out _ _ _ _ _, by rw [at_eq]; exact atL1 (v_row _ _ _ _ _) ⟨hz9, by omega⟩ (v_atk _ _ _ _ _ HX109.out (fun h => h.2 rfl))⟩
      case measure => rw [hat, HAT0.out]; have := HL.out.2; have := HNA.out; rw [adv_at] at this; omega
    · rw [if_neg (by rw [h1]; decide)] at hrr
      rw [h1, if_neg (by decide)] at HT2
      clear h1
      go_wp2_with fail
      refine (HT1.out _ HK.out.1).mono ?_
      rintro e wy ⟨rfl, hk⟩
      have HK1 := Lib.hid (HK.out.trans hk)
      have HZ1 := Lib.hid (hk.row HZ.out (by omega))
      have HM1 := Lib.hid (hk.row HM.out (by omega))
      have HX1 := Lib.hid (HX.out.took hk (by omega))
      clear hk HK HZ HM HX
      go_wp2_with fail
      refine (HT2.out _ HK1.out.1).mono ?_
      rintro e wx ⟨rfl, hk⟩
      have HK2 := Lib.hid (HK1.out.trans hk)
      have HZ2 := Lib.hid (hk.row HZ1.out (by omega))
      have HM2 := Lib.hid (hk.row HM1.out (by omega))
      have HX2 := Lib.hid ((HX1.out.took hk (by omega)).base (B' := fun b => w.heap.size < b) (fun b hb _ => hb.1))
      clear hk HK1 HZ1 HM1 HX1
      subst hrr
      obtain ⟨k0, k1, k2, k3, f0, f1, f2, f3⟩ := row4 HZ2.out
      obtain ⟨m0, m1, m2, m3, _⟩ := row4 HM2.out
      go_wp2_with fail
      exact ret_row 2 rfl rfl rfl (setrow4 HZ2.out _ _ _ _) Try.underlying43 infoExS (rgives_end HR.out HK2.out Ax cx HX2.out _ _ _ _)
end Go.Proofs.Ytilkilffkjhhbaa
namespace Go.Proofs.Ytilkilffkjhhbaa
set_option maxRecDepth 20000
set_option linter.unusedVariables false
open Go.RowKit Tr Mem

set_option maxRecDepth 100000 in
set_option maxHeartbeats 16000000 in
theorem rlevel6_of (bp : Nat) (A : Option Addr) (c : Nat) (ts : List Lx.Tok) (s : St) (IH : ∀ (k : Tr.Call) (s' : St), k = .unary → fuel ts k s' < fuel ts (.level 6) s → rSaid bp A c ts k s') : rSaid bp A c ts (.level 6) s := by
  intro w h
  have HR := Lib.hid h
  have hbw := h.lt
  obtain ⟨r, hr⟩ : ∃ r, r = P ts (.level 6) s := ⟨_, rfl⟩
  rw [← hr]
  rw [P_six] at hr
  have HS0 := Lib.hid (IH .unary s rfl (by simp [fuel, rank]))
  clear h IH
  unfold rfnOf rargsOf
  dsimp only
  have HW0 : Hid (∀ V, Below w.heap.size w (w.alloc V)) := fun V => (Below.refl _ _).alloc (Nat.le_refl _) V
  have HSA : Hid (∀ w, RowAt w bp 66 A c ts s → Calls Try.prog 72 #[.pointer (some ⟨bp, 0, none⟩)] w (rGives w bp A c ts r)) := by unfold RowKit.Hid; rw [hr]; exact HS0.out
  clear hr HS0
  obtain ⟨x, s1⟩ := r
  have h6 : ((6 : Nat) : Int) = 6 := rfl
  rw [h6]
  clear h6
  go_enter Try.func108, Try.ntmps108
  go_wp2_with fail
  obtain ⟨W0, hW0⟩ : ∃ W0, W0 = w.alloc (.cells zrow 43) := ⟨_, rfl⟩
  unfold zrow at hW0
  rw [← hW0]
  have HB0 : Hid (Below w.heap.size w W0) := by rw [hW0]; exact HW0.out _
  have HZ0 : Hid (W0.heap[w.heap.size]? = some (.cells zrow 43 (0, 0))) := by rw [hW0]; exact heap_alloc_new _ _
  have HK0 : Hid (Took w bp 66 A c ts s W0) := (took_refl HR.out).below HB0.out
  clear hW0
  have hzz1 := (Array.getElem?_eq_some_iff.1 HZ0.out).1
  refine (HSA.out _ HK0.out.1).mono ?_
  rintro e w1 ⟨Ax, cx, rfl, hat, hk⟩
  have HY2 := Lib.hid (hk.row HZ0.out (by omega))
  have HK3 := Lib.hid (HK0.out.trans hk)
  clear HZ0 HK0
  have HX4 := Lib.hid (hat.base (B' := fun b => w.heap.size < b) (fun b hb hl => Nat.lt_of_lt_of_le hzz1 hb))
  clear hat hk
  unfold exAgg
  dsimp only
  obtain ⟨k0, k1, k2, k3, k4, k5, k6, k7⟩ := row4 HY2.out
  go_wp2_with fail
  exact ret_row 4 rfl rfl rfl (setrow4 HY2.out _ _ _ _) Try.underlying43 infoExS (rgives_end HR.out HK3.out Ax cx HX4.out _ _ _ _)
/-- what holds at the head of binary's loop -/
def rLevAt (w : World) (bp g5 n : Nat) (A : Option Addr) (c : Nat) (ts : List Lx.Tok) (r : Ex × St) (x : Ex) (s : St) (Ax : Option Addr) (cx : Nat) (W : World) : Prop :=
  r = P ts (.loop n x) s ∧ Took w bp 66 A c ts s W ∧ W.heap[w.heap.size]? = some (.cells zrow 43 (0, 0)) ∧ W.heap[g5]? = some (.cells #[.int .i64 x.kind, .int .i32 x.n, .string ⟨x.name.toArray⟩, .slice Ax x.sub.length cx] 43 (0, 0)) ∧ At W (fun b => w.heap.size < b ∧ b ≠ g5) x Ax
set_option maxRecDepth 100000 in
set_option maxHeartbeats 16000000 in
theorem rlevel_of (bp : Nat) (A : Option Addr) (c : Nat) (ts : List Lx.Tok) (n : Nat) (hn : n ≤ 5) (s : St) (IH : ∀ (s' : St), fuel ts (.level (n + 1)) s' < fuel ts (.level n) s → rSaid bp A c ts (.level (n + 1)) s') : rSaid bp A c ts (.level n) s := by
  intro w h
  have HR := Lib.hid h
  have hbw := h.lt
  have hlen := h.len
  obtain ⟨r, hr⟩ : ∃ r, r = P ts (.level n) s := ⟨_, rfl⟩
  rw [← hr]
  rw [P_level hn] at hr
  have hn1 : ((n + 1 : Nat) : Int) = (n : Int) + 1 := by omega
  have HIH : Hid (∀ s', fuel ts (.level (n + 1)) s' < fuel ts (.level n) s → ∀ w, RowAt w bp 66 A c ts s' → Calls Try.prog 108 #[.pointer (some ⟨bp, 0, none⟩), .int .i64 ((n : Int) + 1)] w (rGives w bp A c ts (P ts (.level (n + 1)) s'))) := by
    intro s' hs'
    have := IH s' hs'
    unfold rSaid rfnOf rargsOf at this
    dsimp only at this
    rw [hn1] at this
    exact this
  have HS0 := Lib.hid (HIH.out s (by simp only [fuel, rank]; omega))
  have HFU : Hid (∀ s' : St, s.at_ < ts.length → s.at_ + 1 ≤ s'.at_ → fuel ts (.level (n + 1)) s' < fuel ts (.level n) s) := fun s' h1 h2 => by simp only [fuel, rank]; omega
  have HPA := Lib.hid (P_at (ts := ts) (.level (n + 1)) s)
  clear h IH hn1
  unfold rfnOf rargsOf
  dsimp only
  have HW0 : Hid (∀ V, Below w.heap.size w (w.alloc V)) := fun V => (Below.refl _ _).alloc (Nat.le_refl _) V
  have hn6 : decide ((5 : Int) < (n : Int)) = false := decide_eq_false (by omega)
  have hn5 : ¬ (5 : Int) < (n : Int) := by omega
  generalize hq : P ts (.level (n + 1)) s = q at *
  obtain ⟨x, s1⟩ := q
  dsimp only at *
  have HRR := Lib.hid hr
  clear hr hq
  have HLV := Lib.hid (fun W => rlevel_any n hn W)
  have HAM := Lib.hid (fun W s g cc hne h hg => ramong_any bp A c ts s g cc (ops n) (ops_ok n) (ops_len n) hne W h hg)
  have HOP := Lib.hid (ops_ok n)
  go_enter Try.func108, Try.ntmps108
  go_wp2_with fail
  obtain ⟨W0, hW0⟩ : ∃ W0, W0 = w.alloc (.cells zrow 43) := ⟨_, rfl⟩
  unfold zrow at hW0
  rw [← hW0]
  have HB0 : Hid (Below w.heap.size w W0) := by rw [hW0]; exact HW0.out _
  have HZ0 : Hid (W0.heap[w.heap.size]? = some (.cells zrow 43 (0, 0))) := by rw [hW0]; exact heap_alloc_new _ _
  have HK0 : Hid (Took w bp 66 A c ts s W0) := (took_refl HR.out).below HB0.out
  clear hW0
  have hzz1 := (Array.getElem?_eq_some_iff.1 HZ0.out).1
  refine (HS0.out _ HK0.out.1).mono ?_
  rintro e w1 ⟨Ax, cx, rfl, hat, hk⟩
  have HY2 := Lib.hid (hk.row HZ0.out (by omega))
  have HK3 := Lib.hid (HK0.out.trans hk)
  clear HZ0 HK0
  have HX4 := Lib.hid (hat.base (B' := fun b => w.heap.size < b ∧ b ≠ w1.heap.size) (fun b hb hl => ⟨Nat.lt_of_lt_of_le hzz1 hb, Nat.ne_of_lt hl⟩))
  clear hat hk
  unfold exAgg
  dsimp only
  go_upto_region 4 with (fail)
  obtain ⟨W5, hW⟩ : ∃ W, W = w1.alloc (.cells #[.int .i64 x.kind, .int .i32 x.n, .string ⟨x.name.toArray⟩, .slice Ax x.sub.length cx] 43) := ⟨_, rfl⟩
  rw [← hW]
  have hbx : Below w1.heap.size w1 W5 := by rw [hW]; exact (Below.refl _ _).alloc (Nat.le_refl _) _
  have HN5 : Hid (W5.heap[w1.heap.size]? = some (.cells #[.int .i64 x.kind, .int .i32 x.n, .string ⟨x.name.toArray⟩, .slice Ax x.sub.length cx] 43 (0, 0))) := by rw [hW]; exact heap_alloc_new _ _
  have hlo5 : w.heap.size < w1.heap.size := (Array.getElem?_eq_some_iff.1 HY2.out).1
  clear hW
  have HY6 := Lib.hid ((hbx.block _ (Array.getElem?_eq_some_iff.1 HY2.out).1).trans HY2.out)
  have HX7 := Lib.hid (HX4.out.below hbx (Nat.le_refl _))
  have HK8 := Lib.hid (HK3.out.below hbx)
  clear HY2 HX4 HK3
  clear hbx
  have HF0 : Hid (rLevAt w bp w1.heap.size n A c ts r x s1 Ax cx W5) := ⟨HRR.out, HK8.out, HY6.out, HN5.out, HX7.out⟩
  clear HK8 HY6 HN5 HX7 HRR HS0
  go_wp2_with fail
  go_loopw [6] (fun _ wr => ∃ (x : Ex) (s1 : St) (Ax : Option Addr) (cx : Nat), s.at_ ≤ s1.at_ ∧ Hid (rLevAt w bp w1.heap.size n A c ts r x s1 Ax cx wr)) (fun _ wr => ts.length - atOf wr bp)
  case atStart => exact ⟨x, s1, Ax, cx, HPA.out, HF0.out⟩
  case round =>
    clear HF0
    obtain ⟨x, s1, Ax, cx, hss, HF⟩ := hrel
    obtain ⟨hrr, hk0, hz0, hm0, hx0⟩ := HF.out
    have HK := Lib.hid hk0
    have HZ := Lib.hid hz0
    have HM := Lib.hid hm0
    have HX := Lib.hid hx0
    have HAT0 := Lib.hid hk0.1.atOf
    have HRR := Lib.hid hrr
    have hgz : w.heap.size < wr.heap.size := (Array.getElem?_eq_some_iff.1 hz0).1
    have hg5 : w1.heap.size < wr.heap.size := (Array.getElem?_eq_some_iff.1 hm0).1
    clear HF hrr hk0 hz0 hm0 hx0
    go_wp2_with fail
    refine (HLV.out _).mono ?_
    rintro e wl ⟨gl, rfl, hgl, hlo, hbl⟩
    have HKl := Lib.hid (HK.out.below hbl)
    have HZl := Lib.hid ((hbl.block _ hgz).trans HZ.out)
    have HMl := Lib.hid ((hbl.block _ hg5).trans HM.out)
    have HXl := Lib.hid (HX.out.below hbl (Nat.le_refl _))
    have HGL := Lib.hid hgl
    have hnb : gl ≠ bp := by omega
    clear hgl hbl HK HZ HM HX
    go_wp2_with fail
    refine (HAM.out _ s1 gl _ hnb HKl.out.1 HGL.out).mono ?_
    obtain ⟨oo, hoo⟩ : ∃ o, o = among ts s1 (ops n) := ⟨_, rfl⟩
    rw [← hoo]
    have HOO := Lib.hid hoo
    rintro e wa ⟨rfl, hka⟩
    have HZa := Lib.hid (hka.row HZl.out (by omega))
    have HMa := Lib.hid (hka.row HMl.out (by omega))
    have HXa := Lib.hid (HXl.out.took hka (by omega))
    have HKa := Lib.hid (HKl.out.trans hka)
    clear hka hoo HKl HZl HMl HXl HGL hnb
    by_cases h0 : oo = 0
    · subst h0
      rw [if_pos rfl] at HKa
      have hr := HRR.out
      rw [P_loop_end HOO.out.symm] at hr
      subst hr
      have HX2 := Lib.hid (HXa.out.base (B' := fun b => w.heap.size < b) (fun b hb _ => hb.1))
      obtain ⟨k0, k1, k2, k3, f0, f1, f2, f3⟩ := row4 HZa.out
      obtain ⟨m0, m1, m2, m3, _⟩ := row4 HMa.out
      go_wp2_with fail
      exact ret_row 4 rfl rfl rfl (setrow4 HZa.out _ _ _ _) Try.underlying43 infoExS (rgives_end HR.out HKa.out Ax cx HX2.out _ _ _ _)
    · rw [if_neg h0] at HKa
      have hr := HRR.out
      have hne : among ts s1 (ops n) ≠ 0 := by rw [← HOO.out]; exact h0
      rw [P_loop hn hne, ← HOO.out] at hr
      have HL := Lib.hid (among_lt _ _ hne)
      have hrng : 1 ≤ oo ∧ oo ≤ 16 := by
        rcases among_mem ts s1 (ops n) with h | h
        · exact absurd h hne
        · rw [← HOO.out] at h; exact HOP.out _ h
      have HSL := Lib.hid (HIH.out s1.adv (HFU.out _ (by have := HL.out.2; omega) (by rw [adv_at]; omega)))
      have HPS := Lib.hid (P_at (ts := ts) (.level (n + 1)) s1.adv)
      generalize hqq : P ts (.level (n + 1)) s1.adv = q at *
      obtain ⟨y, s2⟩ := q
      dsimp only at *
      have HRN1 : Hid (n = 2 → r = (bin oo x y, s2)) := fun h => by rw [if_pos h] at hr; exact hr
      have HRN2 : Hid (n ≠ 2 → r = P ts (.loop n (bin oo x y)) s2) := fun h => by rw [if_neg h] at hr; exact hr
      have hb0 : (oo == 0) = false := beq_eq_false_iff_ne.2 h0
      have hga : w.heap.size < wa.heap.size := (Array.getElem?_eq_some_iff.1 HZa.out).1
      have hg5a : w1.heap.size < wa.heap.size := (Array.getElem?_eq_some_iff.1 HMa.out).1
      have hwr : IntKind.i64.wrap ((n : Int) + 1) = (n : Int) + 1 := by rw [IntKind.wrap_i64]; omega
      clear hr hne hqq HRR HOO
      go_wp2_with fail
      refine (HSL.out _ HKa.out.1).mono ?_
      rintro e wz ⟨Ay, cy, rfl, hat, hk⟩
      have HK9 := Lib.hid (HKa.out.trans hk)
      have HZ9 := Lib.hid (hk.row HZa.out (by omega))
      have HM9 := Lib.hid (hk.row HMa.out (by omega))
      have HX9 := Lib.hid (HXa.out.took hk (by omega))
      have HY9 := Lib.hid (hat.base (B' := fun b => w.heap.size < b ∧ b ≠ w1.heap.size) (fun b hb hl => ⟨Nat.lt_of_lt_of_le hga hb, Nat.ne_of_gt (Nat.lt_of_lt_of_le hg5a hb)⟩))
      clear hat hk HKa HZa HMa HXa
      unfold exAgg
      dsimp only
      go_upto_region 8 with (fail)
      obtain ⟨W8, hW8⟩ : ∃ W, W = wz.alloc (.cells #[.int .i64 y.kind, .int .i32 y.n, .string ⟨y.name.toArray⟩, .slice Ay y.sub.length cy] 43) := ⟨_, rfl⟩
      rw [← hW8]
      obtain ⟨hq8, hb8, hs8⟩ : W8.heap[wz.heap.size]? = some (.cells #[.int .i64 y.kind, .int .i32 y.n, .string ⟨y.name.toArray⟩, .slice Ay y.sub.length cy] 43 (0, 0)) ∧ Below wz.heap.size wz W8 ∧ wz.heap.size < W8.heap.size := by subst hW8; exact ⟨heap_alloc_new _ _, (Below.refl _ _).alloc (Nat.le_refl _) _, by simp⟩
      have hz9 := Nat.lt_of_lt_of_le (Array.getElem?_eq_some_iff.1 HZ9.out).1 hb8.size
      have hm9 := Nat.lt_of_lt_of_le (Array.getElem?_eq_some_iff.1 HM9.out).1 hb8.size
      have HK8 := Lib.hid (HK9.out.below hb8)
      have HZ8 := Lib.hid ((hb8.block _ (Array.getElem?_eq_some_iff.1 HZ9.out).1).trans HZ9.out)
      have HM8 := Lib.hid ((hb8.block _ (Array.getElem?_eq_some_iff.1 HM9.out).1).trans HM9.out)
      have HX8 := Lib.hid (HX9.out.below hb8 (Nat.le_refl _))
      have HY8 := Lib.hid (HY9.out.below hb8 (Nat.le_refl _))
      obtain ⟨q0, q1, q2, q3, _⟩ := row4 hq8
      obtain ⟨m0, m1, m2, m3, e0, e1, e2, e3⟩ := row4 HM8.out
      clear hW8 hq8 hb8 HK9 HZ9 HM9 HX9 HY9
      go_upto_region 9 with (fail)
      obtain ⟨V, hV⟩ : ∃ V, V = (((((W8.setCell ⟨w1.heap.size, 0, none⟩ (.int .i64 5)).setCell ⟨w1.heap.size, 1, none⟩ (.int .i32 oo)).setCell ⟨w1.heap.size, 2, none⟩ (.string ⟨#[]⟩)).setCell ⟨w1.heap.size, 3, none⟩ (.slice (some ⟨W8.heap.size, 0, none⟩) 2 2)).alloc (.cells #[.int .i64 x.kind, .int .i32 x.n, .string ⟨x.name.toArray⟩, .slice Ax x.sub.length cx, .int .i64 y.kind, .int .i32 y.n, .string ⟨y.name.toArray⟩, .slice Ay y.sub.length cy] 43)) := ⟨_, rfl⟩
      rw [← hV]
      have HKV : Hid (Took w bp 66 A c ts s2 V) := by rw [hV]; exact rv_took2 HK8.out HR.out (Nat.le_of_lt (by omega)) _ _ _ _ _
      have HZV : Hid (V.heap[w.heap.size]? = some (.cells zrow 43 (0, 0))) := by rw [hV]; exact v_keep HZ8.out (by omega) _ _ _ _ _
      have HMV : Hid (V.heap[w1.heap.size]? = some (.cells #[.int .i64 5, .int .i32 oo, .string ⟨#[]⟩, .slice (some ⟨W8.heap.size, 0, none⟩) 2 2] 43 (0, 0))) := by rw [hV]; exact v_res HM8.out _ _ _ _ _
      have HXV : Hid (At V (fun b => w.heap.size < b ∧ b ≠ w1.heap.size) (bin oo x y) (some ⟨W8.heap.size, 0, none⟩)) := by
        unfold RowKit.Hid bin
        rw [hV, at_eq]
        exact atL2 (v_row _ _ _ _ _) ⟨hz9, by omega⟩ (v_atk _ _ _ _ _ HX8.out (fun h => h.2 rfl)) (v_atk _ _ _ _ _ HY8.out (fun h => h.2 rfl))
      clear hV q0 q1 q2 q3 m0 m1 m2 m3 e0 e1 e2 e3 HK8 HZ8 HM8 HX8 HY8
      by_cases h2 : n = 2
      · have hr := HRN1.out h2
        subst h2
        subst hr
        obtain ⟨q0, q1, q2, q3, _⟩ := row4 HMV.out
        obtain ⟨k0, k1, k2, k3, f0, f1, f2, f3⟩ := row4 HZV.out
        go_wp2_with fail
        exact ret_row 4 rfl rfl rfl (setrow4 HZV.out _ _ _ _) Try.underlying43 infoExS (rgives_end (r := (bin oo x y, s2)) HR.out HKV.out _ _ (HXV.out.base (fun b hb _ => hb.1)) _ _ _ _)
      · have HRN := Lib.hid (HRN2.out h2)
        have b2 : ((n : Int) == 2) = false := beq_eq_false_iff_ne.2 (by omega)
        have HAT2 := Lib.hid HKV.out.1.atOf
        go_wp2_with fail
        go_roundw
        case rel => exact ⟨bin oo x y, s2, _, _, by have := HPS.out; rw [adv_at] at this; omega, ⟨HRN.out, HKV.out, HZV.out, HMV.out, HXV.out⟩⟩
        case measure => rw [HAT2.out, HAT0.out]; have := HPS.out; have := HL.out.2; rw [adv_at] at *; omega
end Go.Proofs.Ytilkilffkjhhbaa
