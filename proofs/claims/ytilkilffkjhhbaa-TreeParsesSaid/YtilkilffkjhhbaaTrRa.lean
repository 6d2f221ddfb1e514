/-
  The functions variable, declared and literal.
  The function list: declarations as text.
-/
import Derived.Test.YtilkilffkjhhbaaTrPg
import Derived.Test.YtilkilffkjhhbaaTrD
import Derived.Test.YtilkilffkjhhbaaTrG
import Derived.Test.YtilkilffkjhhbaaLex1
import Derived.Test.YtilkilffkjhhbaaTrL12
namespace Go.Proofs.Ytilkilffkjhhbaa
set_option maxRecDepth 20000
set_option linter.unusedVariables false
open Go.RowKit Tr Mem

set_option maxHeartbeats 4000000 in
theorem variable_any (v : Vr) (own : Bool) (hv : VrFit v) (w : World) :
    Calls Try.prog 76 #[varAgg v, .bool own] w fun e w' => e = .returned (.bool (varOk own v)) ∧ Below w.heap.size w w' := by
  obtain ⟨nm, ty, ck, cn⟩ := v
  obtain ⟨h1, h2⟩ := hv
  dsimp only at h1 h2
  have HN := Lib.hid (fun W => lexname nm h1 W)
  have HC := Lib.hid (fun W => lexname cn h2 W)
  have HW0 : Hid (∀ V, Below w.heap.size w (w.alloc V)) := fun V => (Below.refl _ _).alloc (Nat.le_refl _) V
  obtain ⟨r, hr⟩ : ∃ r, r = varOk own ⟨nm, ty, ck, cn⟩ := ⟨_, rfl⟩
  rw [← hr]
  unfold varOk at hr
  dsimp only at hr
  have hcn : (cn == []) = true → Lx.isName cn = false := fun h => by
    obtain rfl : cn = [] := by simpa using h
    decide
  have hce : (cn == []) = cn.isEmpty := by cases cn <;> rfl
  rw [hce] at hr hcn
  have hk : (ck = 0 ∨ ck = 1 ∨ ck = 2) ∨ ((ck == 0) = false ∧ (ck == 1) = false ∧ (ck == 2) = false) := by
    by_cases h : ck = 0 ∨ ck = 1 ∨ ck = 2
    · exact .inl h
    · refine .inr ⟨?_, ?_, ?_⟩ <;> simp <;> omega
  have ht : (ty = 1 ∨ ty = 2) ∨ ((ty != 1) = true ∧ (ty != 2) = true ∧ (ty == 1) = false ∧ (ty == 2) = false) := by
    by_cases h : ty = 1 ∨ ty = 2
    · exact .inl h
    · refine .inr ⟨?_, ?_, ?_, ?_⟩ <;> simp <;> omega
  generalize Lx.isName nm = bn at *
  generalize Lx.isName cn = bc at *
  generalize hq : cn.isEmpty = be at *
  clear hce h1 h2
  unfold varAgg
  dsimp only
  have hrr := Lib.hid hr
  have hcc := Lib.hid hcn
  clear hr hcn
  rcases bn with _ | _
  · go_enter Try.func76, Try.ntmps76
    go_wp2_with fail
    refine (HN.out _).mono ?_
    rintro e w1 ⟨rfl, hb1⟩
    have HB1 := Lib.hid ((HW0.out _).trans (hb1.mono (by simp)))
    clear hb1
    go_wp2_with fail
    go_ret
    exact ⟨by rw [hrr.out]; rfl, HB1.out⟩
  rcases ht with ht | ⟨t1, t2, t3, t4⟩
  rotate_left
  · go_enter Try.func76, Try.ntmps76
    go_wp2_with fail
    refine (HN.out _).mono ?_
    rintro e w1 ⟨rfl, hb1⟩
    have HB1 := Lib.hid ((HW0.out _).trans (hb1.mono (by simp)))
    have r2 := (hb1.block _ (by simp)).trans (heap_alloc_new w (.cells #[.string ⟨nm.toArray⟩, .int .i64 ty, .int .i64 ck, .string ⟨cn.toArray⟩] 73))
    obtain ⟨k0, k1, k2, k3, -⟩ := row4 r2
    clear hb1 r2
    go_wp2_with fail
    go_ret
    exact ⟨by rw [hrr.out, t3, t4]; rfl, HB1.out⟩
  have htt : (ty == 1 || ty == 2) = true := by rcases ht with rfl | rfl <;> rfl
  rcases hk with hk | ⟨k1, k2, k3⟩
  rotate_left
  · rcases ht with rfl | rfl
    all_goals
      go_enter Try.func76, Try.ntmps76
      go_wp2_with fail
      refine (HN.out _).mono ?_
      rintro e w1 ⟨rfl, hb1⟩
      have HB1 := Lib.hid ((HW0.out _).trans (hb1.mono (by simp)))
      have r2 := (hb1.block _ (by simp)).trans (heap_alloc_new w (.cells #[.string ⟨nm.toArray⟩, .int .i64 _, .int .i64 ck, .string ⟨cn.toArray⟩] 73))
      obtain ⟨k0, k1, k2, k3, -⟩ := row4 r2
      clear hb1 r2
      go_wp2_with fail
      go_ret
      refine ⟨?_, HB1.out⟩
      rw [hrr.out]
      simp_all
  rcases hk with rfl | hk
  · rcases ht with rfl | rfl
    all_goals
      go_enter Try.func76, Try.ntmps76
      go_wp2_with fail
      refine (HN.out _).mono ?_
      rintro e w1 ⟨rfl, hb1⟩
      have HB1 := Lib.hid ((HW0.out _).trans (hb1.mono (by simp)))
      have r2 := (hb1.block _ (by simp)).trans (heap_alloc_new w (.cells #[.string ⟨nm.toArray⟩, .int .i64 _, .int .i64 0, .string ⟨cn.toArray⟩] 73))
      obtain ⟨k0, k1, k2, k3, -⟩ := row4 r2
      clear hb1 r2
      go_wp2_with fail
      go_ret
      refine ⟨?_, HB1.out⟩
      rw [hrr.out]
      simp_all
  · cases own
    · rcases ht with rfl | rfl <;> rcases hk with rfl | rfl
      all_goals
        go_enter Try.func76, Try.ntmps76
        go_wp2_with fail
        refine (HN.out _).mono ?_
        rintro e w1 ⟨rfl, hb1⟩
        have HB1 := Lib.hid ((HW0.out _).trans (hb1.mono (by simp)))
        have r2 := (hb1.block _ (by simp)).trans (heap_alloc_new w (.cells #[.string ⟨nm.toArray⟩, .int .i64 _, .int .i64 _, .string ⟨cn.toArray⟩] 73))
        obtain ⟨k0, k1, k2, k3, -⟩ := row4 r2
        clear hb1 r2
        go_wp2_with fail
        go_ret
        refine ⟨?_, HB1.out⟩
        rw [hrr.out]
        simp
    · rcases ht with rfl | rfl <;> rcases hk with rfl | rfl
      all_goals
        go_enter Try.func76, Try.ntmps76
        go_wp2_with fail
        refine (HN.out _).mono ?_
        rintro e w1 ⟨rfl, hb1⟩
        have HB1 := Lib.hid ((HW0.out _).trans (hb1.mono (by simp)))
        have r2 := (hb1.block _ (by simp)).trans (heap_alloc_new w (.cells #[.string ⟨nm.toArray⟩, .int .i64 _, .int .i64 _, .string ⟨cn.toArray⟩] 73))
        obtain ⟨k0, k1, k2, k3, -⟩ := row4 r2
        clear hb1 r2
        go_wp2_with fail
        refine (HC.out _).mono ?_
        rintro e w2 ⟨rfl, hb2⟩
        have HB2 := Lib.hid (HB1.out.trans (hb2.mono HB1.out.size))
        clear hb2
        go_wp2_with fail
        go_ret
        refine ⟨?_, HB2.out⟩
        rw [hrr.out]
        simp
set_option maxHeartbeats 4000000 in
theorem declared_any (v : Vr) (h1 : v.name.length ≤ 100000) (h2 : v.cn.length ≤ 100000) (w : World) :
    Calls Try.prog 48 #[varAgg v] w fun e w' => e = .returned (.string ⟨(declared v).toArray⟩) ∧ Below w.heap.size w w' := by
  obtain ⟨nm, ty, ck, cn⟩ := v
  dsimp only at h1 h2
  have HW0 : Hid (∀ V, Below w.heap.size w (w.alloc V)) := fun V => (Below.refl _ _).alloc (Nat.le_refl _) V
  obtain ⟨r, hr⟩ : ∃ r, r = declared ⟨nm, ty, ck, cn⟩ := ⟨_, rfl⟩
  rw [← hr]
  unfold declared at hr
  dsimp only at hr
  have HR := Lib.hid hr
  clear hr
  have AP := fun a b => ba_append a b
  unfold varAgg
  dsimp only
  rcases ht : (ty == 2) with _ | _ <;> rcases hk1 : (ck == 1) with _ | _ <;> rcases hk2 : (ck == 2) with _ | _
  all_goals first | (exfalso; simp at hk1 hk2; omega) | skip
  all_goals
    go_enter Try.func48, Try.ntmps48
    go_wp2_with fail
    go_ret
    refine ⟨ret_str ?_, HW0.out _⟩
    rw [HR.out]
    simp at ht hk1 hk2
    simp [ht, hk1, hk2, wWhen, wUnless]
theorem right_zero {x : Ex} (h : right x = 0) : size x ≤ 120 ∧ depth x ≤ 12 ∧ formed x = true := by
  unfold right at h
  split at h
  · simp at h
  · split at h
    · simp at h
    · split at h
      · rename_i h1 h2 h3; exact ⟨by omega, by omega, h3⟩
      · simp at h
theorem row4_of {w W : World} {a b c d : Value} {t : TypeId} (hb : Below (w.alloc (.cells #[a, b, c, d] t)).heap.size (w.alloc (.cells #[a, b, c, d] t)) W) : W.heap[w.heap.size]? = some (.cells #[a, b, c, d] t (0, 0)) := (hb.block _ (by simp)).trans (heap_alloc_new w _)
set_option maxHeartbeats 4000000 in
theorem literal_any (x : Ex) (B : Nat → Prop) (A : Option Addr) (cap : Nat) (w : World) (hA : At w B x A) (hfit : Fit x) :
    Calls Try.prog 77 #[exAgg x A cap] w fun e w' => e = .returned (.bool (literal x)) ∧ Below w.heap.size w w' := by
  have HW0 : Hid (∀ V, Below w.heap.size w (w.alloc V)) := fun V => (Below.refl _ _).alloc (Nat.le_refl _) V
  have HA := Lib.hid hA
  have HRI := Lib.hid (fun W h => right_any x B A cap W h hfit)
  obtain ⟨r, hr⟩ : ∃ r, r = literal x := ⟨_, rfl⟩
  rw [← hr]
  unfold literal at hr
  by_cases h0 : right x = 0
  rotate_left
  · have hne : (right x != 0) = true := by simpa using h0
    have hrr : r = false := by rw [hr]; simp [h0]
    subst hrr
    generalize right x = q at *
    unfold exAgg at *
    clear hA hr
    go_enter Try.func77, Try.ntmps77
    go_wp2_with fail
    refine (HRI.out _ (HA.out.below (HW0.out _) (Nat.le_refl _))).mono ?_
    rintro e w1 ⟨rfl, hb1⟩
    have HB1 := Lib.hid ((HW0.out _).trans (hb1.mono (by simp)))
    clear hb1
    go_wp2_with fail
    go_ret
    exact ⟨rfl, HB1.out⟩
  · have hf := form_of x (right_zero h0).2.2
    rw [h0] at hr HRI
    clear h0 hA hfit
    have HRR := Lib.hid hr
    clear hr
    have main : ∀ (k n : Int) (m : Lx.Bs) (s : List Ex), x = .mk k n m s → ((k = 1 ∧ r = true) ∨ (k = 2 ∧ r = true) ∨ (k = 4 ∧ n = 2 ∧ r = false) ∨ ((k == 1) = false ∧ (k == 2) = false ∧ (k == 4) = false ∧ r = false)) →
        Calls Try.prog 77 #[exAgg x A cap] w fun e w' => e = .returned (.bool r) ∧ Below w.heap.size w w' := by
      intro k n m s hx hk
      subst hx
      unfold exAgg at *
      dsimp only [Ex.kind, Ex.n, Ex.name, Ex.sub] at *
      rcases hk with ⟨rfl, rfl⟩ | ⟨rfl, rfl⟩ | ⟨rfl, rfl, rfl⟩ | ⟨h1, h2, h3, rfl⟩
      all_goals
        go_enter Try.func77, Try.ntmps77
        go_wp2_with fail
        refine (HRI.out _ (HA.out.below (HW0.out _) (Nat.le_refl _))).mono ?_
        rintro e w1 ⟨rfl, hb1⟩
        have HB1 := Lib.hid ((HW0.out _).trans (hb1.mono (by simp)))
        obtain ⟨k0, k1, k2, k3, -⟩ := row4 (row4_of hb1)
        clear hb1
        go_wp2_with fail
        go_ret
        exact ⟨rfl, HB1.out⟩
    cases hf with
    | num n h0 h1 => exact main _ _ _ _ rfl (.inl ⟨rfl, by rw [HRR.out]; rfl⟩)
    | tru => exact main _ _ _ _ rfl (.inr (.inl ⟨rfl, by rw [HRR.out]; rfl⟩))
    | fls => exact main _ _ _ _ rfl (.inr (.inl ⟨rfl, by rw [HRR.out]; rfl⟩))
    | var m h => exact main _ _ _ _ rfl (.inr (.inr (.inr ⟨rfl, rfl, rfl, by rw [HRR.out]; rfl⟩)))
    | not a ha => exact main _ _ _ _ rfl (.inr (.inr (.inl ⟨rfl, rfl, by rw [HRR.out]; rfl⟩)))
    | bin o h0 h1 a b ha hb => exact main _ _ _ _ rfl (.inr (.inr (.inr ⟨rfl, rfl, rfl, by rw [HRR.out]; rfl⟩)))
    | cond a b c ha hb hc => exact main _ _ _ _ rfl (.inr (.inr (.inr ⟨rfl, rfl, rfl, by rw [HRR.out]; rfl⟩)))
    | arr a b ha hb => exact main _ _ _ _ rfl (.inr (.inr (.inr ⟨rfl, rfl, rfl, by rw [HRR.out]; rfl⟩)))
    | when_ m h a ha => exact main _ _ _ _ rfl (.inr (.inr (.inr ⟨rfl, rfl, rfl, by rw [HRR.out]; rfl⟩)))
    | unless_ m h a ha => exact main _ _ _ _ rfl (.inr (.inr (.inr ⟨rfl, rfl, rfl, by rw [HRR.out]; rfl⟩)))
    | merge m h a b ha hb => exact main _ _ _ _ rfl (.inr (.inr (.inr ⟨rfl, rfl, rfl, by rw [HRR.out]; rfl⟩)))
    | neg a ha =>
      clear main
      have hrr : r = (a.kind == 1) := by rw [HRR.out]; simp [Ex.kind, Ex.n, Ex.sub]
      subst hrr
      have hat := HA.out
      rw [at_eq] at hat
      obtain ⟨b, off, rfl, -, g0, -⟩ := hat.get 0 (by simp)
      have hbl := World.block_lt_of_cell? _ _ g0
      simp only [List.getElem_cons_zero, Nat.zero_mul, Nat.add_zero] at g0 hbl
      have HG := Lib.hid g0
      clear g0 hat
      unfold exAgg at *
      dsimp only [Ex.kind, Ex.n, Ex.name, Ex.sub] at *
      go_enter Try.func77, Try.ntmps77
      go_wp2_with fail
      refine (HRI.out _ (HA.out.below (HW0.out _) (Nat.le_refl _))).mono ?_
      rintro e w1 ⟨rfl, hb1⟩
      have hb2 := (HW0.out (.cells #[.int .i64 4, .int .i32 1, .string ⟨#[]⟩, .slice (some ⟨b, off, none⟩) 1 cap] 43)).trans (hb1.mono (by simp))
      have HB1 := Lib.hid hb2
      obtain ⟨k0, k1, k2, k3, -⟩ := row4 (row4_of hb1)
      have q0 := (hb2.cell (p := ⟨b, off, none⟩) hbl).trans HG.out
      clear hb1 hb2
      go_wp2_with fail
      go_ret
      exact ⟨rfl, HB1.out⟩
end Go.Proofs.Ytilkilffkjhhbaa
namespace Go.Proofs.Ytilkilffkjhhbaa
set_option maxRecDepth 20000
set_option linter.unusedVariables false
open Go.RowKit Tr Mem

theorem VarsAt.in_ {w wr : World} {A : Option Addr} {l : List Vr} (h : VarsAt w A l) (hb : Below w.heap.size w wr) (i : Nat) (hi : i < l.length) : ∃ b off, A = some ⟨b, off, none⟩ ∧ b < w.heap.size ∧ wr.cell? ⟨b, off + i * 4, none⟩ = some (.string ⟨(l[i]'hi).name.toArray⟩) ∧
    wr.cell? ⟨b, off + i * 4 + 1, none⟩ = some (.int .i64 (l[i]'hi).type) ∧ wr.cell? ⟨b, off + i * 4 + 2, none⟩ = some (.int .i64 (l[i]'hi).ck) ∧ wr.cell? ⟨b, off + i * 4 + 3, none⟩ = some (.string ⟨(l[i]'hi).cn.toArray⟩) := by
  obtain ⟨b, off, rfl, c0, c1, c2, c3⟩ := h i hi
  have hl := World.block_lt_of_cell? _ _ c0
  simp only at hl
  exact ⟨b, off, rfl, hl, (hb.cell (p := ⟨b, off + i * 4, none⟩) hl).trans c0, (hb.cell (p := ⟨b, off + i * 4 + 1, none⟩) hl).trans c1, (hb.cell (p := ⟨b, off + i * 4 + 2, none⟩) hl).trans c2, (hb.cell (p := ⟨b, off + i * 4 + 3, none⟩) hl).trans c3⟩
theorem decls_snoc : ∀ (l : List Vr) (v : Vr), decls (l ++ [v]) = if l = [] then declared v else decls l ++ ([59, 32] ++ declared v)
  | [], v => rfl
  | [u], v => by simp [decls]
  | u :: u' :: r, v => by
    have ih := decls_snoc (u' :: r) v
    rw [if_neg (by simp)] at ih ⊢
    show declared u ++ [59, 32] ++ decls ((u' :: r) ++ [v]) = _
    rw [ih]
    simp [decls]
theorem decls_take (l : List Vr) (k : Nat) (h : k < l.length) : decls (l.take (k + 1)) = if k = 0 then declared (l[k]'h) else decls (l.take k) ++ ([59, 32] ++ declared (l[k]'h)) := by
  rw [List.take_succ_eq_append_getElem h, decls_snoc]
  by_cases hk : k = 0
  · subst hk; simp
  · rw [if_neg hk, if_neg]
    intro e
    have := congrArg List.length e
    rw [List.length_take, Nat.min_eq_left (by omega)] at this
    exact hk this
theorem ba3 (a b c : Lx.Bs) : (ByteArray.mk a.toArray ++ ByteArray.mk b.toArray) ++ ByteArray.mk c.toArray = ByteArray.mk (a ++ b ++ c).toArray := by rw [ba_append, ba_append]
theorem str2 (a b c : Lx.Bs) (h : c = a ++ b) : Value.string (ByteArray.mk a.toArray ++ ByteArray.mk b.toArray) = .string ⟨c.toArray⟩ := by rw [ba_append, h]
theorem str3 (a b c d : Lx.Bs) (h : d = a ++ b ++ c) : Value.string ((ByteArray.mk a.toArray ++ ByteArray.mk b.toArray) ++ ByteArray.mk c.toArray) = .string ⟨d.toArray⟩ := by rw [ba3, h]
theorem decls_len : ∀ (l : List Vr), (∀ v ∈ l, (declared v).length ≤ 60) → (decls l).length ≤ 62 * l.length
  | [], _ => by simp [decls]
  | [v], h => by have := h v (by simp); simp [decls]; omega
  | v :: u :: r, h => by
    have h1 := h v (by simp)
    have h2 := decls_len (u :: r) (fun x hx => h x (by simp [hx]))
    show (declared v ++ [59, 32] ++ decls (u :: r)).length ≤ _
    simp at h2 ⊢
    omega
def ListOk (l : List Vr) : Prop := l.length ≤ 100 ∧ ∀ v ∈ l, v.name.length ≤ 16 ∧ v.cn.length ≤ 16 ∧ (declared v).length ≤ 60
theorem varOk_ok {own : Bool} {v : Vr} (h : varOk own v = true) : v.name.length ≤ 16 ∧ v.cn.length ≤ 16 ∧ (declared v).length ≤ 60 := by
  unfold varOk at h
  simp only [Bool.and_eq_true, Bool.or_eq_true, beq_iff_eq] at h
  obtain ⟨⟨h1, -⟩, h3⟩ := h
  have a := name_len h1
  have b : v.cn.length ≤ 16 := by
    rcases h3 with ⟨-, h⟩ | ⟨-, h⟩
    · rw [h]; simp
    · exact name_len h
  refine ⟨a, b, ?_⟩
  unfold declared
  split <;> split <;> (try split) <;> simp [wWhen, wUnless] <;> omega
theorem listOk_of {own : Bool} {l : List Vr} (hl : l.length ≤ 100) (h : l.all (varOk own) = true) : ListOk l := ⟨hl, fun v hv => varOk_ok (List.all_eq_true.1 h v hv)⟩
set_option maxRecDepth 100000 in
set_option maxHeartbeats 8000000 in
theorem list_any (l : List Vr) (A : Option Addr) (c : Nat) (w : World) (hA : VarsAt w A l) (hk : ListOk l) :
    Calls Try.prog 47 #[.slice A l.length c] w fun e w' => e = .returned (.string ⟨([40] ++ decls l ++ [41]).toArray⟩) ∧ Below w.heap.size w w' := by
  have HA := Lib.hid hA
  have hn := hk.1
  have HK := Lib.hid hk.2
  have HDC := Lib.hid (fun v h1 h2 W => declared_any v h1 h2 W)
  have HW0 : Hid (∀ V, Below w.heap.size w (w.alloc V)) := fun V => (Below.refl _ _).alloc (Nat.le_refl _) V
  have hdl : ∀ j, (decls (l.take j)).length ≤ 6200 := fun j => by
    have := decls_len (l.take j) (fun v hv => (hk.2 v (List.mem_of_mem_take hv)).2.2)
    rw [List.length_take] at this
    omega
  have HDL := Lib.hid hdl
  have HALL : Hid (decls (l.take l.length) = decls l) := by unfold RowKit.Hid; rw [List.take_length]
  clear hA hk hdl
  go_enter Try.func47, Try.ntmps47
  go_wp2_with fail
  go_loopw [3, 8] (fun v i wr => ∃ (j : Nat) (d : Lx.Bs), j ≤ l.length ∧ i = .int .i64 j ∧ v = .string ⟨(([40] : Lx.Bs) ++ d).toArray⟩ ∧ d.length ≤ 6200 ∧ Hid (d = decls (l.take j)) ∧ Below w.heap.size w wr) (fun _ i _ => l.length - (intOf i).toNat)
  case atStart => exact ⟨0, [], Nat.zero_le _, rfl, by rfl, by simp, by rfl, Below.refl _ _⟩
  case round =>
    obtain ⟨j, d, hj, rfl, rfl, hd6, HD, hb⟩ := hrel
    by_cases hlt : j < l.length
    · obtain ⟨b, off, rfl, hbl, c0, c1, c2, c3⟩ := HA.out.in_ hb j hlt
      have HS := Lib.hid (decls_take l j hlt)
      have hkk := HK.out _ (List.getElem_mem hlt)
      have hd7 := HDL.out (j + 1)
      rw [HS.out] at hd7
      generalize l[j]'hlt = v at *
      obtain ⟨k1, k2, k3⟩ := hkk
      have HC := Lib.hid (fun W => HDC.out v (by omega) (by omega) W)
      unfold varAgg at HC
      generalize hdv : declared v = dv at *
      clear hdv
      obtain ⟨vn, vt, vck, vcn⟩ := v
      dsimp only at *
      by_cases h0 : j = 0
      · subst h0
        have hde : d = [] := HD.out
        subst hde
        rw [if_pos rfl] at hd7 HS
        simp only [Nat.zero_mul, Nat.add_zero] at c0 c1 c2 c3
        go_wp2_with fail
        refine (HC.out _).mono ?_
        rintro e w1 ⟨rfl, hb1⟩
        have HB1 := Lib.hid ((hb.alloc hb.size _).trans (hb1.mono (by have := hb.size; simp; omega)))
        clear hb1
        go_wp2_with fail
        go_roundw
        case rel => exact ⟨1, dv, by omega, by go_num, str2 [40] dv _ rfl, by omega, by rw [HS.out]; rfl, HB1.out⟩
        case measure => simp [intOf]; omega
      · rw [if_neg h0] at hd7 HS
        have hd8 : d.length + dv.length ≤ 6198 := by rw [← HD.out] at hd7; simp at hd7; omega
        clear hd7
        go_wp2_with fail
        refine (HC.out _).mono ?_
        rintro e w1 ⟨rfl, hb1⟩
        have HB1 := Lib.hid ((hb.alloc hb.size _).trans (hb1.mono (by have := hb.size; simp; omega)))
        clear hb1
        go_wp2_with fail
        go_roundw
        case rel => exact ⟨j + 1, d ++ ([59, 32] ++ dv), by omega, by go_num, str3 (40 :: d) [59, 32] dv _ (by simp), by simp; omega, by rw [HS.out, HD.out]; rfl, HB1.out⟩
        case measure => simp [intOf]; omega
    · obtain rfl : j = l.length := by omega
      go_wp2_with fail
      go_ret
      exact ⟨ret_str (by rw [← HALL.out, ← HD.out]; simp), hb⟩
end Go.Proofs.Ytilkilffkjhhbaa
