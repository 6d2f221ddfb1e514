/-
  Are two lists of variables the same? The functions sameVars.
  The drawn comparison of sameVars.
  The drawn comparison of the reference's sameVars.
  Are two programs the same? The functions sameVars and Same, of the program and of the reference.
-/
import Derived.Test.YtilkilffkjhhbaaTrPg
import Derived.Test.YtilkilffkjhhbaaTrRa
import Derived.Test.YtilkilffkjhhbaaTrQc
import Derived.Test.YtilkilffkjhhbaaTrX
import Derived.Laws.StructEq
import Derived.Test.YtilkilffkjhhbaaRgn
import Derived.Test.YtilkilffkjhhbaaTrR3
namespace Go.Proofs.Ytilkilffkjhhbaa
set_option maxRecDepth 20000
set_option linter.unusedVariables false
open Go.RowKit Tr Mem

theorem lst_beq (a b : Lx.Bs) : ((ByteArray.mk a.toArray).toList == (ByteArray.mk b.toArray).toList) = (a == b) := by
  rw [ByteArray.toList_eq, ByteArray.toList_eq]
theorem equalIn_clock (d : Nat) (a b : Int) (m n : Lx.Bs) (w : World) : (Op.equalIn (d + 2) 71 (.agg #[.int .i64 a, .string ⟨m.toArray⟩]) (.agg #[.int .i64 b, .string ⟨n.toArray⟩])).run Try.prog w = .ok (a == b && m == n) w := by
  rw [run_equalIn_struct (P := Try.prog) w (d + 1) 71 _ _ (by kernel_rfl) (by kernel_rfl)]
  have e : (Try.prog.fieldsOf 71) = #[{ name := "Kind", type := 3, offset := 0, embedded := false, tag := "", pkgPath := "", byteOffset := 0 }, { name := "Name", type := 9, offset := 1, embedded := false, tag := "", pkgPath := "", byteOffset := 8 }] := by unfold Program.fieldsOf; rw [Try.underlying71]
  have p0 : ∀ W, (part 3 #[.int .i64 a, .string ⟨m.toArray⟩] 0).run Try.prog W = .ok (.int .i64 a) W := fun W => by kernel_rfl
  have p1 : ∀ W, (part 9 #[.int .i64 a, .string ⟨m.toArray⟩] 1).run Try.prog W = .ok (.string ⟨m.toArray⟩) W := fun W => by kernel_rfl
  have q0 : ∀ W, (part 3 #[.int .i64 b, .string ⟨n.toArray⟩] 0).run Try.prog W = .ok (.int .i64 b) W := fun W => by kernel_rfl
  have q1 : ∀ W, (part 9 #[.int .i64 b, .string ⟨n.toArray⟩] 1).run Try.prog W = .ok (.string ⟨n.toArray⟩) W := fun W => by kernel_rfl
  rw [e]
  have hs := lst_beq m n
  generalize hab : (a == b) = ab at *
  generalize hmn : (m == n) = mn at *
  cases ab <;> cases mn <;> simp only [Op.eqFields, ne_eq, String.reduceEq, not_false_eq_true, if_true, Sem.run_bind, p0, p1, q0, q1, Result.andThen_ok, run_equalIn_int (P := Try.prog) _ d 3 .i64 .i64 a b Try.underlying3, run_equalIn_string (P := Try.prog) _ d 9 _ _ Try.underlying9, hs, hab, Bool.not_true, Bool.not_false, Bool.false_eq_true, if_false, Sem.run_pure, Bool.and_true, Bool.and_false, Bool.and_self]
theorem equalIn_var (u v : Vr) (w : World) : (Op.equalIn 10000 73 (varAgg u) (varAgg v)).run Try.prog w = .ok (sameVr u v) w := by
  obtain ⟨un, ut, uk, uc⟩ := u
  obtain ⟨vn, vt, vk, vc⟩ := v
  unfold varAgg sameVr
  dsimp only
  rw [run_equalIn_struct (P := Try.prog) w 9999 73 _ _ (by kernel_rfl) (by kernel_rfl)]
  have e : (Try.prog.fieldsOf 73) = #[{ name := "Name", type := 9, offset := 0, embedded := false, tag := "", pkgPath := "", byteOffset := 0 }, { name := "Type", type := 3, offset := 1, embedded := false, tag := "", pkgPath := "", byteOffset := 16 }, { name := "Clock", type := 71, offset := 2, embedded := false, tag := "", pkgPath := "", byteOffset := 24 }] := by unfold Program.fieldsOf; rw [Try.underlying73]
  have p : ∀ (n c : Lx.Bs) (t k : Int) W, (part 9 #[.string ⟨n.toArray⟩, .int .i64 t, .int .i64 k, .string ⟨c.toArray⟩] 0).run Try.prog W = .ok (.string ⟨n.toArray⟩) W ∧ (part 3 #[.string ⟨n.toArray⟩, .int .i64 t, .int .i64 k, .string ⟨c.toArray⟩] 1).run Try.prog W = .ok (.int .i64 t) W ∧
      (part 71 #[.string ⟨n.toArray⟩, .int .i64 t, .int .i64 k, .string ⟨c.toArray⟩] 2).run Try.prog W = .ok (.agg #[.int .i64 k, .string ⟨c.toArray⟩]) W := fun n c t k W => ⟨by kernel_rfl, by kernel_rfl, by kernel_rfl⟩
  rw [e]
  have hs := lst_beq un vn
  have hc := fun W => equalIn_clock 9997 uk vk uc vc W
  have hcl : (uk == vk && uc == vc) = ((uk == vk) && (uc == vc)) := rfl
  rw [Bool.and_assoc]
  generalize huv : (un == vn) = a at *
  generalize htt : (ut == vt) = b at *
  generalize ((uk == vk) && (uc == vc)) = c at *
  have hi := fun W => run_equalIn_int (P := Try.prog) W 9998 3 .i64 .i64 ut vt Try.underlying3
  rw [htt] at hi
  cases a <;> cases b <;> cases c <;> simp only [Op.eqFields, ne_eq, String.reduceEq, not_false_eq_true, if_true, Sem.run_bind, (p _ _ _ _ _).1, (p _ _ _ _ _).2.1, (p _ _ _ _ _).2.2, Result.andThen_ok, hi, run_equalIn_string (P := Try.prog) _ 9998 9 _ _ Try.underlying9, hs, hc, Bool.not_true, Bool.not_false, Bool.false_eq_true, if_false, Sem.run_pure, Bool.and_true, Bool.and_false, Bool.and_self]
theorem neq_var (u v : Vr) (w : World) : (binOp .neq 73 (varAgg u) (varAgg v)).run Try.prog w = .ok (.bool (!sameVr u v)) w := by
  have h := equalIn_var u v w
  unfold varAgg at *
  rw [run_neq_struct, h]
  rfl
theorem x_neq_agg {P : Program} {a : Act} {w : World} {o : Oper} {x y : Operand} {t t2 : TypeId} {xs ys : Array Value} {b : Bool} (ho : o.op = .binOp .neq t x y t2) (hx : a.eval x = .agg xs) (hy : a.eval y = .agg ys) (hm : P.eqGuardType P.depth t = false)
    (hr : (binOp .neq t (.agg xs) (.agg ys)).run P w = .ok (.bool b) w) : (execOp a.eval o).run P w = .ok (.value (.bool b)) w := by
  unfold execOp
  simp only [ho, hx, hy]
  rw [Sem.run_bind, Sem.run_bind, run_eqGuard_agg _ _ _ _ _ _ _ hm]
  simp only [Result.andThen_ok, hr]
  rfl
theorem index_var (w : World) (b off n c j : Nat) (h : j < n) : (Instr.indexAt 23 (.slice (some ⟨b, off, none⟩) n c) (.int .i64 (j : Int))).run Try.prog w = .ok (.pointer (some ⟨b, off + j * 4, none⟩)) w := by
  have e : (j : Int) < (n : Int) := by omega
  simp [go_sem, e]
end Go.Proofs.Ytilkilffkjhhbaa
namespace Go.Proofs.Ytilkilffkjhhbaa
set_option maxRecDepth 20000
set_option linter.unusedVariables false
open Go.RowKit Mem

set_option linter.unusedVariables false
noncomputable def svtOps : Array Oper := findOps 6 ((Try.f62).body.getD (.exit 0))
def svtSlots : List (Nat × Nat) := [(0, 19), (1, 20), (2, 21), (3, 22), (4, 23), (5, 24)]
def svtVal (gl b off n c b2 off2 c2 j : Nat) (u v : Tr.Vr) : Nat → Value
  | 0 => .agg #[.string ⟨u.name.toArray⟩, .int .i64 u.type, .int .i64 u.ck, .string ⟨u.cn.toArray⟩]
  | 1 => .slice (some ⟨b2, off2, none⟩) n c2
  | 2 => .int .i64 (j : Int)
  | 3 => .pointer (some ⟨b2, off2 + j * 4, none⟩)
  | 4 => .agg #[.string ⟨v.name.toArray⟩, .int .i64 v.type, .int .i64 v.ck, .string ⟨v.cn.toArray⟩]
  | _ => .bool (!Tr.sameVr u v)
theorem svtRegion {Q : Exit → Act → World → Prop} (a0 : Act) (W0 : World) (hs : 24 < a0.tmps.size) (gl b off n c b2 off2 c2 j : Nat) (u v : Tr.Vr) (hj : j < n) (m0 : W0.cell? ⟨gl, 0, none⟩ = some (.string ⟨u.name.toArray⟩)) (m1 : W0.cell? ⟨gl, 1, none⟩ = some (.int .i64 u.type)) (m2 : W0.cell? ⟨gl, 2, none⟩ = some (.int .i64 u.ck)) (m3 : W0.cell? ⟨gl, 3, none⟩ = some (.string ⟨u.cn.toArray⟩)) (q0 : W0.cell? ⟨b2, off2 + j * 4, none⟩ = some (.string ⟨v.name.toArray⟩)) (q1 : W0.cell? ⟨b2, off2 + j * 4 + 1, none⟩ = some (.int .i64 v.type)) (q2 : W0.cell? ⟨b2, off2 + j * 4 + 2, none⟩ = some (.int .i64 v.ck)) (q3 : W0.cell? ⟨b2, off2 + j * 4 + 3, none⟩ = some (.string ⟨v.cn.toArray⟩))
    (e6 : a0.eval (.tmp 6) = .pointer (some ⟨gl, 0, none⟩))
    (e1 : a0.eval (.tmp 1) = .slice (some ⟨b2, off2, none⟩) n c2)
    (e5 : a0.eval (.tmp 5) = .int .i64 (j : Int))
    (hQ : ∀ w, Below W0.heap.size W0 w → Q .normal (svtSlots.foldl (fun x p => x.put (some p.2) ((svtVal gl b off n c b2 off2 c2 j u v) p.1)) a0) w) :
    wpAny Try.prog .any svtOps Q 6 (Array.replicate 6 false) a0 W0.drew := by
  have ok : slotsFix svtSlots a0.tmps.size = true := by
    have : ∀ z, 24 < z → slotsFix svtSlots z = true := by
      intro z hz
      simp [slotsFix, svtSlots]
      omega
    exact this _ hs
  have lm : gl < W0.heap.size := World.block_lt_of_cell? _ _ m0
  have lq : b2 < W0.heap.size := World.block_lt_of_cell? _ _ q0
  refine region_fixed (by kernel_rfl) W0 a0 svtSlots (svtVal gl b off n c b2 off2 c2 j u v) ok (by kernel_rfl) 6 (by kernel_rfl) ?_ hQ
  intro i L a w h hi hneed
  rcases (show i = 0 ∨ i = 1 ∨ i = 2 ∨ i = 3 ∨ i = 4 ∨ i = 5 by omega) with rfl | rfl | rfl | rfl | rfl | rfl
  · exact fix_value (i := 0) (d := 19) rfl (wanted_none rfl) rfl (by decide) (x_load rfl ((h.old rfl).trans e6) (by have h0 := (h.below.cell (p := ⟨gl, 0, none⟩) lm).trans m0; have h1 := (h.below.cell (p := ⟨gl, 1, none⟩) lm).trans m1; have h2 := (h.below.cell (p := ⟨gl, 2, none⟩) lm).trans m2; have h3 := (h.below.cell (p := ⟨gl, 3, none⟩) lm).trans m3; simp [go_sem, h0, h1, h2, h3]; try rfl))
  · exact fix_value (i := 1) (d := 20) rfl (wanted_none rfl) rfl (by decide) (x_move rfl ((h.old rfl).trans e1))
  · exact fix_value (i := 2) (d := 21) rfl (wanted_none rfl) rfl (by decide) (x_move rfl ((h.old rfl).trans e5))
  · exact fix_value (i := 3) (d := 22) rfl (wanted_none rfl) rfl (by decide) (x_index rfl (h.get 1 20 (by decide) (hneed 1 (by kernel_rfl))) (h.get 2 21 (by decide) (hneed 2 (by kernel_rfl))) (index_var w b2 off2 n c2 j hj))
  · exact fix_value (i := 4) (d := 23) rfl (wanted_none rfl) rfl (by decide) (x_load rfl (h.get 3 22 (by decide) (hneed 3 (by kernel_rfl))) (by have h0 := (h.below.cell (p := ⟨b2, off2 + j * 4, none⟩) lq).trans q0; have h1 := (h.below.cell (p := ⟨b2, off2 + j * 4 + 1, none⟩) lq).trans q1; have h2 := (h.below.cell (p := ⟨b2, off2 + j * 4 + 2, none⟩) lq).trans q2; have h3 := (h.below.cell (p := ⟨b2, off2 + j * 4 + 3, none⟩) lq).trans q3; simp [go_sem, h0, h1, h2, h3]; try rfl))
  · exact fix_value (i := 5) (d := 24) rfl (wanted_none rfl) rfl (by decide) (x_neq_agg rfl (h.get 0 19 (by decide) (hneed 0 (by kernel_rfl))) (h.get 4 23 (by decide) (hneed 4 (by kernel_rfl))) (by kernel_rfl) (neq_var u v w))
end Go.Proofs.Ytilkilffkjhhbaa
namespace Go.Proofs.Ytilkilffkjhhbaa
set_option maxRecDepth 20000
set_option linter.unusedVariables false
open Go.RowKit Mem

set_option linter.unusedVariables false
noncomputable def svrOps : Array Oper := findOps 6 ((Try.f44).body.getD (.exit 0))
def svrSlots : List (Nat × Nat) := [(0, 17), (1, 18), (2, 19), (3, 20), (4, 21), (5, 22), (6, 23), (7, 24), (8, 25)]
def svrVal (gl b off n c b2 off2 c2 j : Nat) (u v : Tr.Vr) : Nat → Value
  | 0 => .slice (some ⟨b, off, none⟩) n c
  | 1 => .int .i64 (j : Int)
  | 2 => .pointer (some ⟨b, off + j * 4, none⟩)
  | 3 => .agg #[.string ⟨u.name.toArray⟩, .int .i64 u.type, .int .i64 u.ck, .string ⟨u.cn.toArray⟩]
  | 4 => .slice (some ⟨b2, off2, none⟩) n c2
  | 5 => .int .i64 (j : Int)
  | 6 => .pointer (some ⟨b2, off2 + j * 4, none⟩)
  | 7 => .agg #[.string ⟨v.name.toArray⟩, .int .i64 v.type, .int .i64 v.ck, .string ⟨v.cn.toArray⟩]
  | _ => .bool (!Tr.sameVr u v)
theorem svrRegion {Q : Exit → Act → World → Prop} (a0 : Act) (W0 : World) (hs : 25 < a0.tmps.size) (gl b off n c b2 off2 c2 j : Nat) (u v : Tr.Vr) (hj : j < n) (m0 : W0.cell? ⟨b, off + j * 4, none⟩ = some (.string ⟨u.name.toArray⟩)) (m1 : W0.cell? ⟨b, off + j * 4 + 1, none⟩ = some (.int .i64 u.type)) (m2 : W0.cell? ⟨b, off + j * 4 + 2, none⟩ = some (.int .i64 u.ck)) (m3 : W0.cell? ⟨b, off + j * 4 + 3, none⟩ = some (.string ⟨u.cn.toArray⟩)) (q0 : W0.cell? ⟨b2, off2 + j * 4, none⟩ = some (.string ⟨v.name.toArray⟩)) (q1 : W0.cell? ⟨b2, off2 + j * 4 + 1, none⟩ = some (.int .i64 v.type)) (q2 : W0.cell? ⟨b2, off2 + j * 4 + 2, none⟩ = some (.int .i64 v.ck)) (q3 : W0.cell? ⟨b2, off2 + j * 4 + 3, none⟩ = some (.string ⟨v.cn.toArray⟩))
    (e0 : a0.eval (.tmp 0) = .slice (some ⟨b, off, none⟩) n c)
    (e1 : a0.eval (.tmp 1) = .slice (some ⟨b2, off2, none⟩) n c2)
    (e5 : a0.eval (.tmp 5) = .int .i64 (j : Int))
    (hQ : ∀ w, Below W0.heap.size W0 w → Q .normal (svrSlots.foldl (fun x p => x.put (some p.2) ((svrVal gl b off n c b2 off2 c2 j u v) p.1)) a0) w) :
    wpAny Try.prog .any svrOps Q 9 (Array.replicate 9 false) a0 W0.drew := by
  have ok : slotsFix svrSlots a0.tmps.size = true := by
    have : ∀ z, 25 < z → slotsFix svrSlots z = true := by
      intro z hz
      simp [slotsFix, svrSlots]
      omega
    exact this _ hs
  have lm : b < W0.heap.size := World.block_lt_of_cell? _ _ m0
  have lq : b2 < W0.heap.size := World.block_lt_of_cell? _ _ q0
  refine region_fixed (by kernel_rfl) W0 a0 svrSlots (svrVal gl b off n c b2 off2 c2 j u v) ok (by kernel_rfl) 9 (by kernel_rfl) ?_ hQ
  intro i L a w h hi hneed
  rcases (show i = 0 ∨ i = 1 ∨ i = 2 ∨ i = 3 ∨ i = 4 ∨ i = 5 ∨ i = 6 ∨ i = 7 ∨ i = 8 by omega) with rfl | rfl | rfl | rfl | rfl | rfl | rfl | rfl | rfl
  · exact fix_value (i := 0) (d := 17) rfl (wanted_none rfl) rfl (by decide) (x_move rfl ((h.old rfl).trans e0))
  · exact fix_value (i := 1) (d := 18) rfl (wanted_none rfl) rfl (by decide) (x_move rfl ((h.old rfl).trans e5))
  · exact fix_value (i := 2) (d := 19) rfl (wanted_none rfl) rfl (by decide) (x_index rfl (h.get 0 17 (by decide) (hneed 0 (by kernel_rfl))) (h.get 1 18 (by decide) (hneed 1 (by kernel_rfl))) (index_var w b off n c j hj))
  · exact fix_value (i := 3) (d := 20) rfl (wanted_none rfl) rfl (by decide) (x_load rfl (h.get 2 19 (by decide) (hneed 2 (by kernel_rfl))) (by have h0 := (h.below.cell (p := ⟨b, off + j * 4, none⟩) lm).trans m0; have h1 := (h.below.cell (p := ⟨b, off + j * 4 + 1, none⟩) lm).trans m1; have h2 := (h.below.cell (p := ⟨b, off + j * 4 + 2, none⟩) lm).trans m2; have h3 := (h.below.cell (p := ⟨b, off + j * 4 + 3, none⟩) lm).trans m3; simp [go_sem, h0, h1, h2, h3]; try rfl))
  · exact fix_value (i := 4) (d := 21) rfl (wanted_none rfl) rfl (by decide) (x_move rfl ((h.old rfl).trans e1))
  · exact fix_value (i := 5) (d := 22) rfl (wanted_none rfl) rfl (by decide) (x_move rfl ((h.old rfl).trans e5))
  · exact fix_value (i := 6) (d := 23) rfl (wanted_none rfl) rfl (by decide) (x_index rfl (h.get 4 21 (by decide) (hneed 4 (by kernel_rfl))) (h.get 5 22 (by decide) (hneed 5 (by kernel_rfl))) (index_var w b2 off2 n c2 j hj))
  · exact fix_value (i := 7) (d := 24) rfl (wanted_none rfl) rfl (by decide) (x_load rfl (h.get 6 23 (by decide) (hneed 6 (by kernel_rfl))) (by have h0 := (h.below.cell (p := ⟨b2, off2 + j * 4, none⟩) lq).trans q0; have h1 := (h.below.cell (p := ⟨b2, off2 + j * 4 + 1, none⟩) lq).trans q1; have h2 := (h.below.cell (p := ⟨b2, off2 + j * 4 + 2, none⟩) lq).trans q2; have h3 := (h.below.cell (p := ⟨b2, off2 + j * 4 + 3, none⟩) lq).trans q3; simp [go_sem, h0, h1, h2, h3]; try rfl))
  · exact fix_value (i := 8) (d := 25) rfl (wanted_none rfl) rfl (by decide) (x_neq_agg rfl (h.get 3 20 (by decide) (hneed 3 (by kernel_rfl))) (h.get 7 24 (by decide) (hneed 7 (by kernel_rfl))) (by kernel_rfl) (neq_var u v w))
end Go.Proofs.Ytilkilffkjhhbaa
namespace Go.Proofs.Ytilkilffkjhhbaa
set_option maxRecDepth 20000
set_option linter.unusedVariables false
open Go.RowKit Tr Mem

theorem sameVrs_of : ∀ (s t : List Vr), s.length = t.length → (∀ j (hj : j < s.length) (hj' : j < t.length), sameVr (s[j]'hj) (t[j]'hj') = true) → sameVrs s t = true
  | [], [], _, _ => rfl
  | [], _ :: _, h, _ => by simp at h
  | _ :: _, [], h, _ => by simp at h
  | x :: r, y :: t, h, ha => by
    rw [sameVrs, show sameVr x y = true from ha 0 (by simp) (by simp), Bool.true_and]
    exact sameVrs_of r t (by simpa using h) fun j hj hj' => ha (j + 1) (by simpa using hj) (by simpa using hj')
theorem sameVrs_not : ∀ (s t : List Vr) (j : Nat) (hj : j < s.length) (hj' : j < t.length), sameVr (s[j]'hj) (t[j]'hj') = false → sameVrs s t = false
  | [], _, j, hj, _, _ => by simp at hj
  | _ :: _, [], j, _, hj', _ => by simp at hj'
  | x :: r, y :: t, 0, _, _, h => by rw [sameVrs, show sameVr x y = false from h, Bool.false_and]
  | x :: r, y :: t, j + 1, hj, hj', h => by rw [sameVrs, sameVrs_not r t j (by simpa using hj) (by simpa using hj') h, Bool.and_false]
theorem sameVrs_len : ∀ (s t : List Vr), s.length ≠ t.length → sameVrs s t = false
  | [], [], h => absurd rfl h
  | [], _ :: _, _ => rfl
  | _ :: _, [], _ => rfl
  | x :: r, y :: t, h => by rw [sameVrs, sameVrs_len r t (by simpa using h), Bool.and_false]
theorem sameEqs_of : ∀ (s t : List Eqn), s.length = t.length → (∀ j (hj : j < s.length) (hj' : j < t.length), sameEq (s[j]'hj) (t[j]'hj') = true) → sameEqs s t = true
  | [], [], _, _ => rfl
  | [], _ :: _, h, _ => by simp at h
  | _ :: _, [], h, _ => by simp at h
  | x :: r, y :: t, h, ha => by
    rw [sameEqs, show sameEq x y = true from ha 0 (by simp) (by simp), Bool.true_and]
    exact sameEqs_of r t (by simpa using h) fun j hj hj' => ha (j + 1) (by simpa using hj) (by simpa using hj')
theorem sameEqs_not : ∀ (s t : List Eqn) (j : Nat) (hj : j < s.length) (hj' : j < t.length), sameEq (s[j]'hj) (t[j]'hj') = false → sameEqs s t = false
  | [], _, j, hj, _, _ => by simp at hj
  | _ :: _, [], j, _, hj', _ => by simp at hj'
  | x :: r, y :: t, 0, _, _, h => by rw [sameEqs, show sameEq x y = false from h, Bool.false_and]
  | x :: r, y :: t, j + 1, hj, hj', h => by rw [sameEqs, sameEqs_not r t j (by simpa using hj) (by simpa using hj') h, Bool.and_false]
theorem sameEqs_len : ∀ (s t : List Eqn), s.length ≠ t.length → sameEqs s t = false
  | [], [], h => absurd rfl h
  | [], _ :: _, _ => rfl
  | _ :: _, [], _ => rfl
  | x :: r, y :: t, h => by rw [sameEqs, sameEqs_len r t (by simpa using h), Bool.and_false]

set_option maxRecDepth 100000 in
set_option maxHeartbeats 8000000 in
theorem sameVars_any (l l2 : List Vr) (A A2 : Option Addr) (c c2 : Nat) (w : World) (hA : VarsAt w A l) (hA2 : VarsAt w A2 l2) (hn : l.length ≤ maxLen) (hn2 : l2.length ≤ maxLen) :
    Calls Try.prog 62 #[.slice A l.length c, .slice A2 l2.length c2] w fun e w' => e = .returned (.bool (sameVrs l l2)) ∧ Below w.heap.size w w' := by
  have HA := Lib.hid hA
  have HA2 := Lib.hid hA2
  unfold maxLen at hn hn2
  clear hA hA2
  by_cases hll : l.length = l2.length
  rotate_left
  · have hs := sameVrs_len l l2 hll
    rw [hs]
    have hne : ((l.length : Int) != (l2.length : Int)) = true := by simp; omega
    clear hs
    go_enter Try.func62, Try.ntmps62
    go_wp2_with fail
    go_ret
    exact ⟨rfl, Below.refl _ _⟩
  · obtain ⟨r, hr⟩ : ∃ r, r = sameVrs l l2 := ⟨_, rfl⟩
    rw [← hr]
    have HR := Lib.hid hr
    have HLL := Lib.hid hll
    rw [← hll]
    have hlt2 : l.length ≤ l2.length := by omega
    clear hr hll hn2
    go_enter Try.func62, Try.ntmps62
    go_wp2_with fail
    go_loopw [14] (fun i wr => ∃ j : Nat, j ≤ l.length ∧ i = .int .i64 j ∧ Hid (∀ k (hk : k < l.length) (hk' : k < l2.length), k < j → sameVr (l[k]'hk) (l2[k]'hk') = true) ∧ Below w.heap.size w wr) (fun i _ => l.length - (intOf i).toNat)
    case atStart => exact ⟨0, Nat.zero_le _, rfl, fun k _ _ h => by omega, Below.refl _ _⟩
    case round =>
      obtain ⟨j, hj, rfl, HJ, hb⟩ := hrel
      by_cases hlt : j < l.length
      · obtain ⟨b, off, rfl, hbl, c0, c1, c2_, c3⟩ := HA.out.in_ hb j hlt
        obtain ⟨b2, off2, rfl, hbl2, d0, d1, d2, d3⟩ := HA2.out.in_ hb j (by omega)
        have HNO := Lib.hid (sameVrs_not l l2 j hlt (by omega))
        have HYES : Hid (sameVr (l[j]'hlt) (l2[j]'(by omega)) = true → ∀ k (hk : k < l.length) (hk' : k < l2.length), k < j + 1 → sameVr (l[k]'hk) (l2[k]'hk') = true) := fun h k hk hk' hkj => by
          by_cases e : k = j
          · subst e; exact h
          · exact HJ.out k hk hk' (by omega)
        generalize l[j]'hlt = u at *
        generalize hvv : l2[j]'(by omega) = v at *
        clear HJ
        go_upto_region 6 with (fail)
        obtain ⟨W8, hW8⟩ : ∃ W8, W8 = wr.alloc (.cells #[.string ⟨u.name.toArray⟩, .int .i64 u.type, .int .i64 u.ck, .string ⟨u.cn.toArray⟩] 73) := ⟨_, rfl⟩
        rw [← hW8]
        have hb8 : Below wr.heap.size wr W8 := by rw [hW8]; exact (Below.refl _ _).alloc (Nat.le_refl _) _
        have HU : Hid (W8.heap[wr.heap.size]? = some (.cells #[.string ⟨u.name.toArray⟩, .int .i64 u.type, .int .i64 u.ck, .string ⟨u.cn.toArray⟩] 73 (0, 0))) := by rw [hW8]; exact heap_alloc_new _ _
        have hq := hb.trans (hb8.mono hb.size)
        have e0 := (hb8.cell (p := ⟨b2, off2 + j * 4, none⟩) (by have := hb.size; simp only; omega)).trans d0
        have e1 := (hb8.cell (p := ⟨b2, off2 + j * 4 + 1, none⟩) (by have := hb.size; simp only; omega)).trans d1
        have e2 := (hb8.cell (p := ⟨b2, off2 + j * 4 + 2, none⟩) (by have := hb.size; simp only; omega)).trans d2
        have e3 := (hb8.cell (p := ⟨b2, off2 + j * 4 + 3, none⟩) (by have := hb.size; simp only; omega)).trans d3
        obtain ⟨m0, m1, m2, m3, -⟩ := row4 HU.out
        clear hW8 hb8 hb
        clear hvv
        refine wp_region_any (by kernel_rfl) ?_
        refine wpAny_ops (ops' := svtOps) (by kernel_rfl) ?_
        refine svtRegion _ _ (by simp) wr.heap.size 0 0 l.length 0 b2 off2 c2 j u v hlt m0 m1 m2 m3 e0 e1 e2 e3 rfl rfl rfl ?_
        intro wq hbq
        have HQ := Lib.hid (hq.trans (hbq.mono hq.size))
        clear hbq hq m0 m1 m2 m3 e0 e1 e2 e3 c0 c1 c2_ c3 d0 d1 d2 d3
        simp only [svtSlots, List.foldl_cons, List.foldl_nil]
        simp only [svtVal]
        simp only [Act.put, List.setIfInBounds_toArray, List.set_cons_zero, List.set_cons_succ]
        generalize hsm : sameVr u v = sm at *
        clear hsm
        cases sm
        · go_wp2_with fail
          go_ret
          exact ⟨by rw [HR.out, HNO.out (by first | rfl | trivial)]; rfl, HQ.out⟩
        · go_wp2_with fail
          go_roundw
          case rel => exact ⟨j + 1, by omega, by go_num, HYES.out (by first | rfl | trivial), HQ.out⟩
          case measure => simp [intOf]; omega
      · obtain rfl : j = l.length := by omega
        have HT : Hid (r = true) := by unfold RowKit.Hid; rw [HR.out]; exact sameVrs_of l l2 HLL.out fun k hk hk' => HJ.out k hk hk' hk
        go_wp2_with fail
        go_ret
        exact ⟨by rw [HT.out]; rfl, hb⟩

set_option maxRecDepth 100000 in
set_option maxHeartbeats 8000000 in
theorem refsameVars_any (l l2 : List Vr) (A A2 : Option Addr) (c c2 : Nat) (w : World) (hA : VarsAt w A l) (hA2 : VarsAt w A2 l2) (hn : l.length ≤ maxLen) (hn2 : l2.length ≤ maxLen) :
    Calls Try.prog 44 #[.slice A l.length c, .slice A2 l2.length c2] w fun e w' => e = .returned (.bool (sameVrs l l2)) ∧ Below w.heap.size w w' := by
  have HA := Lib.hid hA
  have HA2 := Lib.hid hA2
  unfold maxLen at hn hn2
  clear hA hA2
  by_cases hll : l.length = l2.length
  rotate_left
  · have hs := sameVrs_len l l2 hll
    rw [hs]
    have hne : ((l.length : Int) != (l2.length : Int)) = true := by simp; omega
    clear hs
    go_enter Try.func44, Try.ntmps44
    go_wp2_with fail
    go_ret
    exact ⟨rfl, Below.refl _ _⟩
  · obtain ⟨r, hr⟩ : ∃ r, r = sameVrs l l2 := ⟨_, rfl⟩
    rw [← hr]
    have HR := Lib.hid hr
    have HLL := Lib.hid hll
    rw [← hll]
    have hlt2 : l.length ≤ l2.length := by omega
    clear hr hll hn2
    go_enter Try.func44, Try.ntmps44
    go_wp2_with fail
    go_loopw [5] (fun i wr => ∃ j : Nat, j ≤ l.length ∧ i = .int .i64 j ∧ Hid (∀ k (hk : k < l.length) (hk' : k < l2.length), k < j → sameVr (l[k]'hk) (l2[k]'hk') = true) ∧ Below w.heap.size w wr) (fun i _ => l.length - (intOf i).toNat)
    case atStart => exact ⟨0, Nat.zero_le _, rfl, fun k _ _ h => by omega, Below.refl _ _⟩
    case round =>
      obtain ⟨j, hj, rfl, HJ, hb⟩ := hrel
      by_cases hlt : j < l.length
      · obtain ⟨b, off, rfl, hbl, c0, c1, c2_, c3⟩ := HA.out.in_ hb j hlt
        obtain ⟨b2, off2, rfl, hbl2, d0, d1, d2, d3⟩ := HA2.out.in_ hb j (by omega)
        have HNO := Lib.hid (sameVrs_not l l2 j hlt (by omega))
        have HYES : Hid (sameVr (l[j]'hlt) (l2[j]'(by omega)) = true → ∀ k (hk : k < l.length) (hk' : k < l2.length), k < j + 1 → sameVr (l[k]'hk) (l2[k]'hk') = true) := fun h k hk hk' hkj => by
          by_cases e : k = j
          · subst e; exact h
          · exact HJ.out k hk hk' (by omega)
        generalize l[j]'hlt = u at *
        generalize hvv : l2[j]'(by omega) = v at *
        clear HJ
        go_upto_region 6 with (fail)
        have hq := hb
        clear hvv
        refine wp_region_any (by kernel_rfl) ?_
        refine wpAny_ops (ops' := svrOps) (by kernel_rfl) ?_
        refine svrRegion _ _ (by simp) 0 b off l.length c b2 off2 c2 j u v hlt c0 c1 c2_ c3 d0 d1 d2 d3 rfl rfl rfl ?_
        intro wq hbq
        have HQ := Lib.hid (hq.trans (hbq.mono hq.size))
        clear hbq hq c0 c1 c2_ c3 d0 d1 d2 d3
        simp only [svrSlots, List.foldl_cons, List.foldl_nil]
        simp only [svrVal]
        simp only [Act.put, List.setIfInBounds_toArray, List.set_cons_zero, List.set_cons_succ]
        generalize hsm : sameVr u v = sm at *
        clear hsm
        cases sm
        · go_wp2_with fail
          go_ret
          exact ⟨by rw [HR.out, HNO.out (by first | rfl | trivial)]; rfl, HQ.out⟩
        · go_wp2_with fail
          go_roundw
          case rel => exact ⟨j + 1, by omega, by go_num, HYES.out (by first | rfl | trivial), HQ.out⟩
          case measure => simp [intOf]; omega
      · obtain rfl : j = l.length := by omega
        have HT : Hid (r = true) := by unfold RowKit.Hid; rw [HR.out]; exact sameVrs_of l l2 HLL.out fun k hk hk' => HJ.out k hk hk' hk
        go_wp2_with fail
        go_ret
        exact ⟨by rw [HT.out]; rfl, hb⟩

theorem alloc2_ (w : World) (a b : Array Value) (t u : TypeId) : ∀ W, W = (w.alloc (.cells a t)).alloc (.cells b u) →
    W.heap[w.heap.size]? = some (.cells a t (0, 0)) ∧ W.heap[w.heap.size + 1]? = some (.cells b u (0, 0)) ∧ Below w.heap.size w W ∧ W.heap.size = w.heap.size + 1 + 1 := by
  rintro W rfl
  have s1 : (w.alloc (.cells a t)).heap.size = w.heap.size + 1 := by simp
  have h0 := heap_alloc_new w (.cells a t)
  have h1 := heap_alloc_new (w.alloc (.cells a t)) (.cells b u)
  rw [s1] at h1
  exact ⟨row_alloc h0 _, h1, ((Below.refl _ _).alloc (Nat.le_refl _) _).alloc (by rw [s1]; omega) _, by simp⟩
theorem bne_of {a b : Lx.Bs} {c : Bool} (h : (a == b) = c) : (a != b) = !c := by rw [bne, h]
theorem bnei_of {a b : Int} {c : Bool} (h : (a == b) = c) : (a != b) = !c := by rw [bne, h]

set_option maxRecDepth 100000 in
set_option maxHeartbeats 16000000 in
theorem tsame_any (p q : Pg) (L M : Lie) (K K' : Nat → Prop) (w : World) (hA : PgAt w K p L) (hB : PgAt w K' q M) (hf : PgFit p) (hg : PgFit q) :
    Calls Try.prog 29 #[pgAgg p L, pgAgg q M] w fun e w' => e = .returned (.bool (samePg p q)) ∧ Below w.heap.size w w' := by
  obtain ⟨r, hr⟩ : ∃ r, r = samePg p q := ⟨_, rfl⟩
  rw [← hr]
  unfold samePg at hr
  obtain ⟨pn, pi, po, pl, pe⟩ := p
  obtain ⟨qn, qi, qo, ql, qe⟩ := q
  obtain ⟨api, cpi, apo, cpo, apl, cpl, ape, cpe⟩ := L
  obtain ⟨aqi, cqi, aqo, cqo, aql, cql, aqe, cqe⟩ := M
  obtain ⟨hai, hao, hal, hae⟩ := hA
  obtain ⟨hbi, hbo, hbl, hbe⟩ := hB
  obtain ⟨-, ⟨fni, -⟩, ⟨fno, -⟩, ⟨fnl, -⟩, ⟨fne, fe⟩⟩ := hf
  obtain ⟨-, ⟨gni, -⟩, ⟨gno, -⟩, ⟨gnl, -⟩, ⟨gne, ge⟩⟩ := hg
  dsimp only at *
  have HV1 := Lib.hid (fun W h1 h2 => sameVars_any pi qi api aqi cpi cqi W h1 h2 fni gni)
  have HV2 := Lib.hid (fun W h1 h2 => sameVars_any po qo apo aqo cpo cqo W h1 h2 fno gno)
  have HV3 := Lib.hid (fun W h1 h2 => sameVars_any pl ql apl aql cpl cql W h1 h2 fnl gnl)
  have HA1 := Lib.hid hai
  have HA2 := Lib.hid hao
  have HA3 := Lib.hid hal
  have HA4 := Lib.hid hae
  have HC1 := Lib.hid hbi
  have HC2 := Lib.hid hbo
  have HC3 := Lib.hid hbl
  have HC4 := Lib.hid hbe
  have HFE := Lib.hid fe
  have HGE := Lib.hid ge
  have HSE := Lib.hid (fun x y A A' c c' W h1 h2 f1 f2 => sameExpr_any K K' (size x) x y (Nat.le_refl _) A A' c c' W h1 h2 f1 f2)
  unfold maxLen at fne gne
  clear hai hao hal hae hbi hbo hbl hbe fe ge fni fno fnl gni gno gnl
  have HR := Lib.hid hr
  clear hr
  unfold pgAgg
  dsimp only
  go_enter Try.func29, Try.ntmps29
  go_upto_region 1 with (fail)
  obtain ⟨W0, hW0⟩ : ∃ W0, W0 = (w.alloc (.cells #[.string ⟨pn.toArray⟩, .slice api pi.length cpi, .slice apo po.length cpo, .slice apl pl.length cpl, .slice ape pe.length cpe] 26)).alloc (.cells #[.string ⟨qn.toArray⟩, .slice aqi qi.length cqi, .slice aqo qo.length cqo, .slice aql ql.length cql, .slice aqe qe.length cqe] 26) := ⟨_, rfl⟩
  rw [← hW0]
  obtain ⟨hp0, hq0, hb0, hsz0⟩ := alloc2_ _ _ _ _ _ _ hW0
  generalize hg1 : w.heap.size + 1 = g1 at *
  have hs0 : w.heap.size < W0.heap.size := by omega
  have hs1 : g1 < W0.heap.size := by omega
  have hng : w.heap.size < g1 := by omega
  have HP0 := Lib.hid hp0
  have HQ0 := Lib.hid hq0
  have HB0 := Lib.hid hb0
  have k0 : W0.cell? ⟨w.heap.size, 0, none⟩ = some (.string ⟨pn.toArray⟩) := cell_of_row W0 w.heap.size 0 _ _ _ hp0
  have l0 : W0.cell? ⟨g1, 0, none⟩ = some (.string ⟨qn.toArray⟩) := cell_of_row W0 g1 0 _ _ _ hq0
  clear hW0 hp0 hq0 hb0 hsz0 hg1
  obtain ⟨⟨n1, n2, n3, n4⟩, -⟩ := row5 HP0.out
  obtain ⟨⟨m1, m2, m3, m4⟩, -⟩ := row5 HQ0.out
  have hb := Below.refl W0.heap.size W0
  rcases hnm : (pn == qn) with _ | _
  · have hbn : (pn != qn) = true := by rw [bne, hnm]; rfl
    rw [hnm] at HR
    go_wp2_with fail
    go_ret
    exact ⟨by rw [HR.out]; rfl, HB0.out⟩
  · have hbn : (pn != qn) = false := by rw [bne, hnm]; rfl
    rw [hnm] at HR
    go_wp2_with fail
    refine (HV1.out _ (HA1.out.below (HB0.out.trans (hb.mono HB0.out.size))) (HC1.out.below (HB0.out.trans (hb.mono HB0.out.size)))).mono ?_
    rintro e w1 ⟨rfl, hbw1'⟩
    have hbw1 := hb.trans (hbw1'.mono hb.size)
    clear hbw1' n1 n2 n3 n4 m1 m2 m3 m4
    have hp1 := (hbw1.block _ hs0).trans HP0.out
    have hp2 := (hbw1.block _ hs1).trans HQ0.out
    obtain ⟨⟨n1, n2, n3, n4⟩, -⟩ := row5 hp1
    obtain ⟨⟨m1, m2, m3, m4⟩, -⟩ := row5 hp2
    clear hp1 hp2
    generalize hx1 : sameVrs pi qi = x1 at *
    clear hx1
    cases x1
    · go_wp2_with fail
      go_ret
      exact ⟨by rw [HR.out]; rfl, HB0.out.trans (hbw1.mono HB0.out.size)⟩
    · go_wp2_with fail
      refine (HV2.out _ (HA2.out.below (HB0.out.trans (hbw1.mono HB0.out.size))) (HC2.out.below (HB0.out.trans (hbw1.mono HB0.out.size)))).mono ?_
      rintro e w2 ⟨rfl, hbw2'⟩
      have hbw2 := hbw1.trans (hbw2'.mono hbw1.size)
      clear hbw2' n1 n2 n3 n4 m1 m2 m3 m4
      have hp1 := (hbw2.block _ hs0).trans HP0.out
      have hp2 := (hbw2.block _ hs1).trans HQ0.out
      obtain ⟨⟨n1, n2, n3, n4⟩, -⟩ := row5 hp1
      obtain ⟨⟨m1, m2, m3, m4⟩, -⟩ := row5 hp2
      clear hp1 hp2
      generalize hx2 : sameVrs po qo = x2 at *
      clear hx2
      cases x2
      · go_wp2_with fail
        go_ret
        exact ⟨by rw [HR.out]; rfl, HB0.out.trans (hbw2.mono HB0.out.size)⟩
      · go_wp2_with fail
        refine (HV3.out _ (HA3.out.below (HB0.out.trans (hbw2.mono HB0.out.size))) (HC3.out.below (HB0.out.trans (hbw2.mono HB0.out.size)))).mono ?_
        rintro e w3 ⟨rfl, hbw3'⟩
        have hbw3 := hbw2.trans (hbw3'.mono hbw2.size)
        clear hbw3' n1 n2 n3 n4 m1 m2 m3 m4
        have hp1 := (hbw3.block _ hs0).trans HP0.out
        have hp2 := (hbw3.block _ hs1).trans HQ0.out
        obtain ⟨⟨n1, n2, n3, n4⟩, -⟩ := row5 hp1
        obtain ⟨⟨m1, m2, m3, m4⟩, -⟩ := row5 hp2
        clear hp1 hp2
        generalize hx3 : sameVrs pl ql = x3 at *
        clear hx3
        cases x3
        · go_wp2_with fail
          go_ret
          exact ⟨by rw [HR.out]; rfl, HB0.out.trans (hbw3.mono HB0.out.size)⟩
        · skip
          by_cases hll : ¬ pe.length = qe.length
          · have hne : ((pe.length : Int) != (qe.length : Int)) = true := by simp; omega
            have HNO : Hid (sameEqs pe qe = false) := sameEqs_len _ _ hll
            go_wp2_with fail
            go_ret
            exact ⟨by rw [HR.out, HNO.out]; rfl, HB0.out.trans (hbw3.mono HB0.out.size)⟩
          · have hll2 : pe.length = qe.length := by omega
            have hlt2 : pe.length ≤ qe.length := by omega
            have HLL := Lib.hid hll2
            have hne : ((pe.length : Int) != (qe.length : Int)) = false := by simp; omega
            clear hll hll2 gne
            go_wp2_with fail
            go_loopw [49] (fun i wr => ∃ j : Nat, j ≤ pe.length ∧ i = .int .i64 j ∧ Hid (∀ k (hk : k < pe.length) (hk' : k < qe.length), k < j → sameEq (pe[k]'hk) (qe[k]'hk') = true) ∧ Below W0.heap.size W0 wr) (fun i _ => pe.length - (intOf i).toNat)
            case atStart => exact ⟨0, Nat.zero_le _, rfl, fun k _ _ h => by omega, hbw3⟩
            case round =>
              clear hbw3 n1 n2 n3 n4 m1 m2 m3 m4
              obtain ⟨j, hj, rfl, HJ, hb⟩ := hrel
              have hp1 := (hb.block _ hs0).trans HP0.out
              have hp2 := (hb.block _ hs1).trans HQ0.out
              obtain ⟨⟨n1, n2, n3, n4⟩, -⟩ := row5 hp1
              obtain ⟨⟨m1, m2, m3, m4⟩, -⟩ := row5 hp2
              clear hp1 hp2
              by_cases hlt : j < pe.length
              · obtain ⟨b, off, AF, cF, AE, cE, e1, hbl, hx1, hx2, c0, c1, c2, c3, c4, c5, c6, c7, c8, c9⟩ := HA4.out.in_ (HB0.out.trans (hb.mono HB0.out.size)) j hlt
                obtain ⟨b', off', AF2, cF2, AE2, cE2, e2, hbl2, hy1, hy2, d0, d1, d2, d3, d4, d5, d6, d7, d8, d9⟩ := HC4.out.in_ (HB0.out.trans (hb.mono HB0.out.size)) j (by omega)
                have HNO := Lib.hid (sameEqs_not pe qe j hlt (by omega))
                have HYES : Hid (sameEq (pe[j]'hlt) (qe[j]'(by omega)) = true → ∀ k (hk : k < pe.length) (hk' : k < qe.length), k < j + 1 → sameEq (pe[k]'hk) (qe[k]'hk') = true) := fun h k hk hk' hkj => by
                  by_cases e : k = j
                  · subst e; exact h
                  · exact HJ.out k hk hk' (by omega)
                have hf1 := HFE.out _ (List.getElem_mem hlt)
                have hf2 := HGE.out (qe[j]'(by omega)) (List.getElem_mem _)
                generalize pe[j]'hlt = q1 at *
                generalize qe[j]'(by omega) = q2 at *
                clear HJ
                have hse : sameEq q1 q2 = (q1.name == q2.name && q1.delay == q2.delay && same q1.first q2.first && same q1.e q2.e) := rfl
                rw [hse] at HNO HYES
                have HS1 := Lib.hid (fun W h1 h2 => HSE.out q1.first q2.first AF AF2 cF cF2 W h1 h2 hf1.2.1 hf2.2.1)
                have HS2 := Lib.hid (fun W h1 h2 => HSE.out q1.e q2.e AE AE2 cE cE2 W h1 h2 hf1.2.2 hf2.2.2)
                unfold exAgg at HS1 HS2
                generalize same q1.first q2.first = s1 at *
                generalize same q1.e q2.e = s2 at *
                have HX1 := Lib.hid hx1
                have HX2 := Lib.hid hx2
                have HY1 := Lib.hid hy1
                have HY2 := Lib.hid hy2
                clear hse hx1 hx2 hy1 hy2 hf1 hf2
                subst e1 e2
                go_upto_region 6 with (fail)
                obtain ⟨W7, hW7⟩ : ∃ W7, W7 = wr.alloc (.cells #[.string ⟨q1.name.toArray⟩, .int .i64 q1.delay, .int .i64 q1.first.kind, .int .i32 q1.first.n, .string ⟨q1.first.name.toArray⟩, .slice AF q1.first.sub.length cF, .int .i64 q1.e.kind, .int .i32 q1.e.n, .string ⟨q1.e.name.toArray⟩, .slice AE q1.e.sub.length cE] 56) := ⟨_, rfl⟩
                rw [← hW7]
                have hb7 : Below wr.heap.size wr W7 := by rw [hW7]; exact (Below.refl _ _).alloc (Nat.le_refl _) _
                have hu1 : W7.heap[wr.heap.size]? = some (.cells #[.string ⟨q1.name.toArray⟩, .int .i64 q1.delay, .int .i64 q1.first.kind, .int .i32 q1.first.n, .string ⟨q1.first.name.toArray⟩, .slice AF q1.first.sub.length cF, .int .i64 q1.e.kind, .int .i32 q1.e.n, .string ⟨q1.e.name.toArray⟩, .slice AE q1.e.sub.length cE] 56 (0, 0)) := by rw [hW7]; exact heap_alloc_new _ _
                have hsz7 : wr.heap.size < W7.heap.size := by rw [hW7]; simp
                have hq7 := hb.trans (hb7.mono hb.size)
                clear hW7 n1 n2 n3 n4 m1 m2 m3 m4
                replace d0 := (hb7.cell (p := ⟨b', off' + j * 10, none⟩) (by have := hb.size; have := HB0.out.size; simp only; omega)).trans d0
                replace d1 := (hb7.cell (p := ⟨b', off' + j * 10 + 1, none⟩) (by have := hb.size; have := HB0.out.size; simp only; omega)).trans d1
                replace d2 := (hb7.cell (p := ⟨b', off' + j * 10 + 2, none⟩) (by have := hb.size; have := HB0.out.size; simp only; omega)).trans d2
                replace d3 := (hb7.cell (p := ⟨b', off' + j * 10 + 3, none⟩) (by have := hb.size; have := HB0.out.size; simp only; omega)).trans d3
                replace d4 := (hb7.cell (p := ⟨b', off' + j * 10 + 4, none⟩) (by have := hb.size; have := HB0.out.size; simp only; omega)).trans d4
                replace d5 := (hb7.cell (p := ⟨b', off' + j * 10 + 5, none⟩) (by have := hb.size; have := HB0.out.size; simp only; omega)).trans d5
                replace d6 := (hb7.cell (p := ⟨b', off' + j * 10 + 6, none⟩) (by have := hb.size; have := HB0.out.size; simp only; omega)).trans d6
                replace d7 := (hb7.cell (p := ⟨b', off' + j * 10 + 7, none⟩) (by have := hb.size; have := HB0.out.size; simp only; omega)).trans d7
                replace d8 := (hb7.cell (p := ⟨b', off' + j * 10 + 8, none⟩) (by have := hb.size; have := HB0.out.size; simp only; omega)).trans d8
                replace d9 := (hb7.cell (p := ⟨b', off' + j * 10 + 9, none⟩) (by have := hb.size; have := HB0.out.size; simp only; omega)).trans d9
                have hp1 := (hq7.block _ hs0).trans HP0.out
                have hp2 := (hq7.block _ hs1).trans HQ0.out
                obtain ⟨⟨n1, n2, n3, n4⟩, -⟩ := row5 hp1
                obtain ⟨⟨m1, m2, m3, m4⟩, -⟩ := row5 hp2
                clear hp1 hp2
                go_upto_region 7 with (fail)
                obtain ⟨W8, hW8⟩ : ∃ W8, W8 = W7.alloc (.cells #[.string ⟨q2.name.toArray⟩, .int .i64 q2.delay, .int .i64 q2.first.kind, .int .i32 q2.first.n, .string ⟨q2.first.name.toArray⟩, .slice AF2 q2.first.sub.length cF2, .int .i64 q2.e.kind, .int .i32 q2.e.n, .string ⟨q2.e.name.toArray⟩, .slice AE2 q2.e.sub.length cE2] 56) := ⟨_, rfl⟩
                rw [← hW8]
                have hb78 : Below W7.heap.size W7 W8 := by rw [hW8]; exact (Below.refl _ _).alloc (Nat.le_refl _) _
                have hu2 : W8.heap[W7.heap.size]? = some (.cells #[.string ⟨q2.name.toArray⟩, .int .i64 q2.delay, .int .i64 q2.first.kind, .int .i32 q2.first.n, .string ⟨q2.first.name.toArray⟩, .slice AF2 q2.first.sub.length cF2, .int .i64 q2.e.kind, .int .i32 q2.e.n, .string ⟨q2.e.name.toArray⟩, .slice AE2 q2.e.sub.length cE2] 56 (0, 0)) := by rw [hW8]; exact heap_alloc_new _ _
                have hb8 := hb7.trans (hb78.mono hb7.size)
                generalize hh1 : W7.heap.size = h1 at *
                have HU1 := Lib.hid ((hb78.block _ (by omega)).trans hu1)
                have HU2 := Lib.hid hu2
                have ht2 : h1 < W8.heap.size := by rw [hW8]; simp; omega
                have ht1 : wr.heap.size < W8.heap.size := by omega
                have HB8 := Lib.hid (hb.trans (hb8.mono hb.size))
                have HX18 := Lib.hid (HX1.out.below hb8 (Nat.le_refl _))
                have HX28 := Lib.hid (HX2.out.below hb8 (Nat.le_refl _))
                have HY18 := Lib.hid (HY1.out.below hb8 (Nat.le_refl _))
                have HY28 := Lib.hid (HY2.out.below hb8 (Nat.le_refl _))
                clear hW8 hb8 hb7 hb78 hq7 hu1 hu2 hsz7 hh1 hb HX1 HX2 HY1 HY2 c0 c1 c2 c3 c4 c5 c6 c7 c8 c9 d0 d1 d2 d3 d4 d5 d6 d7 d8 d9
                obtain ⟨c0, c1, c2, c3, c4, c5, c6, c7, c8, c9⟩ := row10e HU1.out
                obtain ⟨d0, d1, d2, d3, d4, d5, d6, d7, d8, d9⟩ := row10e HU2.out
                rcases hqn : (q1.name == q2.name) with _ | _
                · have hbn2 : (q1.name != q2.name) = true := by rw [bne, hqn]; rfl
                  rw [hqn] at HNO
                  go_wp2_with fail
                  go_ret
                  exact ⟨by rw [HR.out, HNO.out (by simp)]; rfl, HB0.out.trans (HB8.out.mono HB0.out.size)⟩
                have hbn2 : (q1.name != q2.name) = false := by rw [bne, hqn]; rfl
                rw [hqn] at HNO HYES
                rcases hqd : (q1.delay == q2.delay) with _ | _
                · have hbd : (q1.delay != q2.delay) = true := by rw [bne, hqd]; rfl
                  rw [hqd] at HNO
                  clear hqd
                  go_wp2_with fail
                  go_ret
                  exact ⟨by rw [HR.out, HNO.out (by simp)]; rfl, HB0.out.trans (HB8.out.mono HB0.out.size)⟩
                have hbd : (q1.delay != q2.delay) = false := by rw [bne, hqd]; rfl
                rw [hqd] at HNO HYES
                clear hqd
                go_wp2_with fail
                refine (HS1.out _ HX18.out HY18.out).mono ?_
                rintro e w9 ⟨rfl, hb9⟩
                have HB9 := Lib.hid (HB8.out.trans (hb9.mono HB8.out.size))
                have HU19 := Lib.hid ((hb9.block _ ht1).trans HU1.out)
                have HU29 := Lib.hid ((hb9.block _ ht2).trans HU2.out)
                have HX29 := Lib.hid (HX28.out.below hb9 (Nat.le_refl _))
                have HY29 := Lib.hid (HY28.out.below hb9 (Nat.le_refl _))
                clear hb9 c0 c1 c2 c3 c4 c5 c6 c7 c8 c9 d0 d1 d2 d3 d4 d5 d6 d7 d8 d9
                obtain ⟨c0, c1, c2, c3, c4, c5, c6, c7, c8, c9⟩ := row10e HU19.out
                obtain ⟨d0, d1, d2, d3, d4, d5, d6, d7, d8, d9⟩ := row10e HU29.out
                cases s1
                · go_wp2_with fail
                  go_ret
                  exact ⟨by rw [HR.out, HNO.out (by simp)]; rfl, HB0.out.trans (HB9.out.mono HB0.out.size)⟩
                go_wp2_with fail
                refine (HS2.out _ HX29.out HY29.out).mono ?_
                rintro e w10 ⟨rfl, hb10⟩
                have HB10 := Lib.hid (HB9.out.trans (hb10.mono HB9.out.size))
                clear hb10
                cases s2
                · go_wp2_with fail
                  go_ret
                  exact ⟨by rw [HR.out, HNO.out (by simp)]; rfl, HB0.out.trans (HB10.out.mono HB0.out.size)⟩
                go_wp2_with fail
                go_roundw
                case rel => exact ⟨j + 1, by omega, by go_num, HYES.out (by simp), HB10.out⟩
                case measure => simp [intOf]; omega
              · obtain rfl : j = pe.length := by omega
                have HT : Hid (sameEqs pe qe = true) := sameEqs_of pe qe HLL.out fun k hk hk' => HJ.out k hk hk' hk
                go_wp2_with fail
                go_ret
                exact ⟨by rw [HR.out, HT.out]; rfl, HB0.out.trans (hb.mono HB0.out.size)⟩

set_option maxRecDepth 100000 in
set_option maxHeartbeats 16000000 in
theorem refsame_any (p q : Pg) (L M : Lie) (K K' : Nat → Prop) (w : World) (hA : PgAt w K p L) (hB : PgAt w K' q M) (hf : PgFit p) (hg : PgFit q) :
    Calls Try.prog 14 #[pgAgg p L, pgAgg q M] w fun e w' => e = .returned (.bool (samePg p q)) ∧ Below w.heap.size w w' := by
  obtain ⟨r, hr⟩ : ∃ r, r = samePg p q := ⟨_, rfl⟩
  rw [← hr]
  unfold samePg at hr
  obtain ⟨pn, pi, po, pl, pe⟩ := p
  obtain ⟨qn, qi, qo, ql, qe⟩ := q
  obtain ⟨api, cpi, apo, cpo, apl, cpl, ape, cpe⟩ := L
  obtain ⟨aqi, cqi, aqo, cqo, aql, cql, aqe, cqe⟩ := M
  obtain ⟨hai, hao, hal, hae⟩ := hA
  obtain ⟨hbi, hbo, hbl, hbe⟩ := hB
  obtain ⟨-, ⟨fni, -⟩, ⟨fno, -⟩, ⟨fnl, -⟩, ⟨fne, fe⟩⟩ := hf
  obtain ⟨-, ⟨gni, -⟩, ⟨gno, -⟩, ⟨gnl, -⟩, ⟨gne, ge⟩⟩ := hg
  dsimp only at *
  have HV1 := Lib.hid (fun W h1 h2 => refsameVars_any pi qi api aqi cpi cqi W h1 h2 fni gni)
  have HV2 := Lib.hid (fun W h1 h2 => refsameVars_any po qo apo aqo cpo cqo W h1 h2 fno gno)
  have HV3 := Lib.hid (fun W h1 h2 => refsameVars_any pl ql apl aql cpl cql W h1 h2 fnl gnl)
  have HA1 := Lib.hid hai
  have HA2 := Lib.hid hao
  have HA3 := Lib.hid hal
  have HA4 := Lib.hid hae
  have HC1 := Lib.hid hbi
  have HC2 := Lib.hid hbo
  have HC3 := Lib.hid hbl
  have HC4 := Lib.hid hbe
  have HFE := Lib.hid fe
  have HGE := Lib.hid ge
  have HSE := Lib.hid (fun x y A A' c c' W h1 h2 f1 f2 => refSameExpr_any K K' (size x) x y (Nat.le_refl _) A A' c c' W h1 h2 f1 f2)
  unfold maxLen at fne gne
  clear hai hao hal hae hbi hbo hbl hbe fe ge fni fno fnl gni gno gnl
  have HR := Lib.hid hr
  clear hr
  unfold pgAgg
  dsimp only
  go_enter Try.func14, Try.ntmps14
  go_upto_region 1 with (fail)
  obtain ⟨W0, hW0⟩ : ∃ W0, W0 = (w.alloc (.cells #[.string ⟨pn.toArray⟩, .slice api pi.length cpi, .slice apo po.length cpo, .slice apl pl.length cpl, .slice ape pe.length cpe] 26)).alloc (.cells #[.string ⟨qn.toArray⟩, .slice aqi qi.length cqi, .slice aqo qo.length cqo, .slice aql ql.length cql, .slice aqe qe.length cqe] 26) := ⟨_, rfl⟩
  rw [← hW0]
  obtain ⟨hp0, hq0, hb0, hsz0⟩ := alloc2_ _ _ _ _ _ _ hW0
  generalize hg1 : w.heap.size + 1 = g1 at *
  have hs0 : w.heap.size < W0.heap.size := by omega
  have hs1 : g1 < W0.heap.size := by omega
  have hng : w.heap.size < g1 := by omega
  have HP0 := Lib.hid hp0
  have HQ0 := Lib.hid hq0
  have HB0 := Lib.hid hb0
  have k0 : W0.cell? ⟨w.heap.size, 0, none⟩ = some (.string ⟨pn.toArray⟩) := cell_of_row W0 w.heap.size 0 _ _ _ hp0
  have l0 : W0.cell? ⟨g1, 0, none⟩ = some (.string ⟨qn.toArray⟩) := cell_of_row W0 g1 0 _ _ _ hq0
  clear hW0 hp0 hq0 hb0 hsz0 hg1
  obtain ⟨⟨n1, n2, n3, n4⟩, -⟩ := row5 HP0.out
  obtain ⟨⟨m1, m2, m3, m4⟩, -⟩ := row5 HQ0.out
  have hb := Below.refl W0.heap.size W0
  rcases hnm : (pn == qn) with _ | _
  · have hbn : (pn != qn) = true := by rw [bne, hnm]; rfl
    rw [hnm] at HR
    go_wp2_with fail
    go_ret
    exact ⟨by rw [HR.out]; rfl, HB0.out⟩
  · have hbn : (pn != qn) = false := by rw [bne, hnm]; rfl
    rw [hnm] at HR
    go_wp2_with fail
    refine (HV1.out _ (HA1.out.below (HB0.out.trans (hb.mono HB0.out.size))) (HC1.out.below (HB0.out.trans (hb.mono HB0.out.size)))).mono ?_
    rintro e w1 ⟨rfl, hbw1'⟩
    have hbw1 := hb.trans (hbw1'.mono hb.size)
    clear hbw1' n1 n2 n3 n4 m1 m2 m3 m4
    have hp1 := (hbw1.block _ hs0).trans HP0.out
    have hp2 := (hbw1.block _ hs1).trans HQ0.out
    obtain ⟨⟨n1, n2, n3, n4⟩, -⟩ := row5 hp1
    obtain ⟨⟨m1, m2, m3, m4⟩, -⟩ := row5 hp2
    clear hp1 hp2
    generalize hx1 : sameVrs pi qi = x1 at *
    clear hx1
    cases x1
    · go_wp2_with fail
      go_ret
      exact ⟨by rw [HR.out]; rfl, HB0.out.trans (hbw1.mono HB0.out.size)⟩
    · go_wp2_with fail
      refine (HV2.out _ (HA2.out.below (HB0.out.trans (hbw1.mono HB0.out.size))) (HC2.out.below (HB0.out.trans (hbw1.mono HB0.out.size)))).mono ?_
      rintro e w2 ⟨rfl, hbw2'⟩
      have hbw2 := hbw1.trans (hbw2'.mono hbw1.size)
      clear hbw2' n1 n2 n3 n4 m1 m2 m3 m4
      have hp1 := (hbw2.block _ hs0).trans HP0.out
      have hp2 := (hbw2.block _ hs1).trans HQ0.out
      obtain ⟨⟨n1, n2, n3, n4⟩, -⟩ := row5 hp1
      obtain ⟨⟨m1, m2, m3, m4⟩, -⟩ := row5 hp2
      clear hp1 hp2
      generalize hx2 : sameVrs po qo = x2 at *
      clear hx2
      cases x2
      · go_wp2_with fail
        go_ret
        exact ⟨by rw [HR.out]; rfl, HB0.out.trans (hbw2.mono HB0.out.size)⟩
      · go_wp2_with fail
        refine (HV3.out _ (HA3.out.below (HB0.out.trans (hbw2.mono HB0.out.size))) (HC3.out.below (HB0.out.trans (hbw2.mono HB0.out.size)))).mono ?_
        rintro e w3 ⟨rfl, hbw3'⟩
        have hbw3 := hbw2.trans (hbw3'.mono hbw2.size)
        clear hbw3' n1 n2 n3 n4 m1 m2 m3 m4
        have hp1 := (hbw3.block _ hs0).trans HP0.out
        have hp2 := (hbw3.block _ hs1).trans HQ0.out
        obtain ⟨⟨n1, n2, n3, n4⟩, -⟩ := row5 hp1
        obtain ⟨⟨m1, m2, m3, m4⟩, -⟩ := row5 hp2
        clear hp1 hp2
        generalize hx3 : sameVrs pl ql = x3 at *
        clear hx3
        cases x3
        · go_wp2_with fail
          go_ret
          exact ⟨by rw [HR.out]; rfl, HB0.out.trans (hbw3.mono HB0.out.size)⟩
        · skip
          by_cases hll : ¬ pe.length = qe.length
          · have hne : ((pe.length : Int) != (qe.length : Int)) = true := by simp; omega
            have HNO : Hid (sameEqs pe qe = false) := sameEqs_len _ _ hll
            go_wp2_with fail
            go_ret
            exact ⟨by rw [HR.out, HNO.out]; rfl, HB0.out.trans (hbw3.mono HB0.out.size)⟩
          · have hll2 : pe.length = qe.length := by omega
            have hlt2 : pe.length ≤ qe.length := by omega
            have HLL := Lib.hid hll2
            have hne : ((pe.length : Int) != (qe.length : Int)) = false := by simp; omega
            clear hll hll2 gne
            go_wp2_with fail
            go_loopw [5] (fun i wr => ∃ j : Nat, j ≤ pe.length ∧ i = .int .i64 j ∧ Hid (∀ k (hk : k < pe.length) (hk' : k < qe.length), k < j → sameEq (pe[k]'hk) (qe[k]'hk') = true) ∧ Below W0.heap.size W0 wr) (fun i _ => pe.length - (intOf i).toNat)
            case atStart => exact ⟨0, Nat.zero_le _, rfl, fun k _ _ h => by omega, hbw3⟩
            case round =>
              clear hbw3 n1 n2 n3 n4 m1 m2 m3 m4
              obtain ⟨j, hj, rfl, HJ, hb⟩ := hrel
              have hp1 := (hb.block _ hs0).trans HP0.out
              have hp2 := (hb.block _ hs1).trans HQ0.out
              obtain ⟨⟨n1, n2, n3, n4⟩, -⟩ := row5 hp1
              obtain ⟨⟨m1, m2, m3, m4⟩, -⟩ := row5 hp2
              clear hp1 hp2
              by_cases hlt : j < pe.length
              · obtain ⟨b, off, AF, cF, AE, cE, e1, hbl, hx1, hx2, c0, c1, c2, c3, c4, c5, c6, c7, c8, c9⟩ := HA4.out.in_ (HB0.out.trans (hb.mono HB0.out.size)) j hlt
                obtain ⟨b', off', AF2, cF2, AE2, cE2, e2, hbl2, hy1, hy2, d0, d1, d2, d3, d4, d5, d6, d7, d8, d9⟩ := HC4.out.in_ (HB0.out.trans (hb.mono HB0.out.size)) j (by omega)
                have HNO := Lib.hid (sameEqs_not pe qe j hlt (by omega))
                have HYES : Hid (sameEq (pe[j]'hlt) (qe[j]'(by omega)) = true → ∀ k (hk : k < pe.length) (hk' : k < qe.length), k < j + 1 → sameEq (pe[k]'hk) (qe[k]'hk') = true) := fun h k hk hk' hkj => by
                  by_cases e : k = j
                  · subst e; exact h
                  · exact HJ.out k hk hk' (by omega)
                have hf1 := HFE.out _ (List.getElem_mem hlt)
                have hf2 := HGE.out (qe[j]'(by omega)) (List.getElem_mem _)
                generalize pe[j]'hlt = q1 at *
                generalize qe[j]'(by omega) = q2 at *
                clear HJ
                have hse : sameEq q1 q2 = (q1.name == q2.name && q1.delay == q2.delay && same q1.first q2.first && same q1.e q2.e) := rfl
                rw [hse] at HNO HYES
                have HS1 := Lib.hid (fun W h1 h2 => HSE.out q1.first q2.first AF AF2 cF cF2 W h1 h2 hf1.2.1 hf2.2.1)
                have HS2 := Lib.hid (fun W h1 h2 => HSE.out q1.e q2.e AE AE2 cE cE2 W h1 h2 hf1.2.2 hf2.2.2)
                unfold exAgg at HS1 HS2
                generalize same q1.first q2.first = s1 at *
                generalize same q1.e q2.e = s2 at *
                have HX1 := Lib.hid hx1
                have HX2 := Lib.hid hx2
                have HY1 := Lib.hid hy1
                have HY2 := Lib.hid hy2
                clear hse hx1 hx2 hy1 hy2 hf1 hf2
                subst e1 e2
                go_upto_region 7 with (fail)
                obtain ⟨W7, hW7⟩ : ∃ W7, W7 = wr.alloc (.cells #[.string ⟨q1.name.toArray⟩, .int .i64 q1.delay, .int .i64 q1.first.kind, .int .i32 q1.first.n, .string ⟨q1.first.name.toArray⟩, .slice AF q1.first.sub.length cF, .int .i64 q1.e.kind, .int .i32 q1.e.n, .string ⟨q1.e.name.toArray⟩, .slice AE q1.e.sub.length cE] 56) := ⟨_, rfl⟩
                rw [← hW7]
                have hb7 : Below wr.heap.size wr W7 := by rw [hW7]; exact (Below.refl _ _).alloc (Nat.le_refl _) _
                have hu1 : W7.heap[wr.heap.size]? = some (.cells #[.string ⟨q1.name.toArray⟩, .int .i64 q1.delay, .int .i64 q1.first.kind, .int .i32 q1.first.n, .string ⟨q1.first.name.toArray⟩, .slice AF q1.first.sub.length cF, .int .i64 q1.e.kind, .int .i32 q1.e.n, .string ⟨q1.e.name.toArray⟩, .slice AE q1.e.sub.length cE] 56 (0, 0)) := by rw [hW7]; exact heap_alloc_new _ _
                have hsz7 : wr.heap.size < W7.heap.size := by rw [hW7]; simp
                have hq7 := hb.trans (hb7.mono hb.size)
                clear hW7 n1 n2 n3 n4 m1 m2 m3 m4
                replace d0 := (hb7.cell (p := ⟨b', off' + j * 10, none⟩) (by have := hb.size; have := HB0.out.size; simp only; omega)).trans d0
                replace d1 := (hb7.cell (p := ⟨b', off' + j * 10 + 1, none⟩) (by have := hb.size; have := HB0.out.size; simp only; omega)).trans d1
                replace d2 := (hb7.cell (p := ⟨b', off' + j * 10 + 2, none⟩) (by have := hb.size; have := HB0.out.size; simp only; omega)).trans d2
                replace d3 := (hb7.cell (p := ⟨b', off' + j * 10 + 3, none⟩) (by have := hb.size; have := HB0.out.size; simp only; omega)).trans d3
                replace d4 := (hb7.cell (p := ⟨b', off' + j * 10 + 4, none⟩) (by have := hb.size; have := HB0.out.size; simp only; omega)).trans d4
                replace d5 := (hb7.cell (p := ⟨b', off' + j * 10 + 5, none⟩) (by have := hb.size; have := HB0.out.size; simp only; omega)).trans d5
                replace d6 := (hb7.cell (p := ⟨b', off' + j * 10 + 6, none⟩) (by have := hb.size; have := HB0.out.size; simp only; omega)).trans d6
                replace d7 := (hb7.cell (p := ⟨b', off' + j * 10 + 7, none⟩) (by have := hb.size; have := HB0.out.size; simp only; omega)).trans d7
                replace d8 := (hb7.cell (p := ⟨b', off' + j * 10 + 8, none⟩) (by have := hb.size; have := HB0.out.size; simp only; omega)).trans d8
                replace d9 := (hb7.cell (p := ⟨b', off' + j * 10 + 9, none⟩) (by have := hb.size; have := HB0.out.size; simp only; omega)).trans d9
                have hp1 := (hq7.block _ hs0).trans HP0.out
                have hp2 := (hq7.block _ hs1).trans HQ0.out
                obtain ⟨⟨n1, n2, n3, n4⟩, -⟩ := row5 hp1
                obtain ⟨⟨m1, m2, m3, m4⟩, -⟩ := row5 hp2
                clear hp1 hp2
                go_upto_region 8 with (fail)
                obtain ⟨W8, hW8⟩ : ∃ W8, W8 = W7.alloc (.cells #[.string ⟨q2.name.toArray⟩, .int .i64 q2.delay, .int .i64 q2.first.kind, .int .i32 q2.first.n, .string ⟨q2.first.name.toArray⟩, .slice AF2 q2.first.sub.length cF2, .int .i64 q2.e.kind, .int .i32 q2.e.n, .string ⟨q2.e.name.toArray⟩, .slice AE2 q2.e.sub.length cE2] 56) := ⟨_, rfl⟩
                rw [← hW8]
                have hb78 : Below W7.heap.size W7 W8 := by rw [hW8]; exact (Below.refl _ _).alloc (Nat.le_refl _) _
                have hu2 : W8.heap[W7.heap.size]? = some (.cells #[.string ⟨q2.name.toArray⟩, .int .i64 q2.delay, .int .i64 q2.first.kind, .int .i32 q2.first.n, .string ⟨q2.first.name.toArray⟩, .slice AF2 q2.first.sub.length cF2, .int .i64 q2.e.kind, .int .i32 q2.e.n, .string ⟨q2.e.name.toArray⟩, .slice AE2 q2.e.sub.length cE2] 56 (0, 0)) := by rw [hW8]; exact heap_alloc_new _ _
                have hb8 := hb7.trans (hb78.mono hb7.size)
                generalize hh1 : W7.heap.size = h1 at *
                have HU1 := Lib.hid ((hb78.block _ (by omega)).trans hu1)
                have HU2 := Lib.hid hu2
                have ht2 : h1 < W8.heap.size := by rw [hW8]; simp; omega
                have ht1 : wr.heap.size < W8.heap.size := by omega
                have HB8 := Lib.hid (hb.trans (hb8.mono hb.size))
                have HX18 := Lib.hid (HX1.out.below hb8 (Nat.le_refl _))
                have HX28 := Lib.hid (HX2.out.below hb8 (Nat.le_refl _))
                have HY18 := Lib.hid (HY1.out.below hb8 (Nat.le_refl _))
                have HY28 := Lib.hid (HY2.out.below hb8 (Nat.le_refl _))
                clear hW8 hb8 hb7 hb78 hq7 hu1 hu2 hsz7 hh1 hb HX1 HX2 HY1 HY2 c0 c1 c2 c3 c4 c5 c6 c7 c8 c9 d0 d1 d2 d3 d4 d5 d6 d7 d8 d9
                obtain ⟨c0, c1, c2, c3, c4, c5, c6, c7, c8, c9⟩ := row10e HU1.out
                obtain ⟨d0, d1, d2, d3, d4, d5, d6, d7, d8, d9⟩ := row10e HU2.out
                rcases hqn : (q1.name == q2.name) with _ | _
                · have hbn2 : (q1.name != q2.name) = true := by rw [bne, hqn]; rfl
                  rw [hqn] at HNO
                  go_wp2_with fail
                  go_ret
                  exact ⟨by rw [HR.out, HNO.out (by simp)]; rfl, HB0.out.trans (HB8.out.mono HB0.out.size)⟩
                have hbn2 : (q1.name != q2.name) = false := by rw [bne, hqn]; rfl
                rw [hqn] at HNO HYES
                rcases hqd : (q1.delay == q2.delay) with _ | _
                · have hbd : (q1.delay != q2.delay) = true := by rw [bne, hqd]; rfl
                  rw [hqd] at HNO
                  clear hqd
                  go_wp2_with fail
                  go_ret
                  exact ⟨by rw [HR.out, HNO.out (by simp)]; rfl, HB0.out.trans (HB8.out.mono HB0.out.size)⟩
                have hbd : (q1.delay != q2.delay) = false := by rw [bne, hqd]; rfl
                rw [hqd] at HNO HYES
                clear hqd
                go_wp2_with fail
                refine (HS1.out _ HX18.out HY18.out).mono ?_
                rintro e w9 ⟨rfl, hb9⟩
                have HB9 := Lib.hid (HB8.out.trans (hb9.mono HB8.out.size))
                have HU19 := Lib.hid ((hb9.block _ ht1).trans HU1.out)
                have HU29 := Lib.hid ((hb9.block _ ht2).trans HU2.out)
                have HX29 := Lib.hid (HX28.out.below hb9 (Nat.le_refl _))
                have HY29 := Lib.hid (HY28.out.below hb9 (Nat.le_refl _))
                clear hb9 c0 c1 c2 c3 c4 c5 c6 c7 c8 c9 d0 d1 d2 d3 d4 d5 d6 d7 d8 d9
                obtain ⟨c0, c1, c2, c3, c4, c5, c6, c7, c8, c9⟩ := row10e HU19.out
                obtain ⟨d0, d1, d2, d3, d4, d5, d6, d7, d8, d9⟩ := row10e HU29.out
                cases s1
                · go_wp2_with fail
                  go_ret
                  exact ⟨by rw [HR.out, HNO.out (by simp)]; rfl, HB0.out.trans (HB9.out.mono HB0.out.size)⟩
                go_wp2_with fail
                refine (HS2.out _ HX29.out HY29.out).mono ?_
                rintro e w10 ⟨rfl, hb10⟩
                have HB10 := Lib.hid (HB9.out.trans (hb10.mono HB9.out.size))
                clear hb10
                cases s2
                · go_wp2_with fail
                  go_ret
                  exact ⟨by rw [HR.out, HNO.out (by simp)]; rfl, HB0.out.trans (HB10.out.mono HB0.out.size)⟩
                go_wp2_with fail
                go_roundw
                case rel => exact ⟨j + 1, by omega, by go_num, HYES.out (by simp), HB10.out⟩
                case measure => simp [intOf]; omega
              · obtain rfl : j = pe.length := by omega
                have HT : Hid (sameEqs pe qe = true) := sameEqs_of pe qe HLL.out fun k hk hk' => HJ.out k hk hk' hk
                go_wp2_with fail
                go_ret
                exact ⟨by rw [HR.out, HT.out]; rfl, HB0.out.trans (hb.mono HB0.out.size)⟩

end Go.Proofs.Ytilkilffkjhhbaa
