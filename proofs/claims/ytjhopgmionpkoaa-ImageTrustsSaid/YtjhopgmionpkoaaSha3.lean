/-
  A block's numbers, by the reference.
  The drawn statement of Step of the package sha: a block's numbers, the keys and the state, each in new memory, whatever the order.
  Slices of bytes, a row and a number returned together, and a state carried through blocks.
  The state behind a block, by the package sha.
-/
import Derived.Test.YtjhopgmionpkoaaShaC
import Derived.Test.YtjhopgmionpkoaaSha1
import Derived.Test.YtjhopgmionpkoaaRgn
import Derived.Great.Frames
import Derived.Deep.DeepCutAuto
import Derived.Test.YtjhopgmionpkoaaBytes
import Derived.Test.YtjhopgmionpkoaaCells
import Derived.StillTailTactics
namespace Go.Proofs.Ytjhopgmionpkoaa
set_option maxRecDepth 20000
open Go.RowKit Mem

theorem infoWord : (Try.prog.info? 22).map (fun i => (i.zero, i.size, i.bytes)) = some (some (.int .u32 0), 1, 4) := by kernel_rfl
theorem refturnedI (x : UInt32) (n : Int) (h0 : 0 ≤ n) (h1 : n ≤ 32) (w : World) :
    Calls Try.prog 109 #[.int .u32 (x.toNat : Int), .int .i64 n] w fun e w' => e = .returned (.int .u32 ((Sh.ror n x).toNat : Int)) ∧ w = w' := by
  obtain ⟨m, rfl⟩ := Int.eq_ofNat_of_zero_le h0
  exact refturned x m (by omega) w
theorem refshifted3 (x : UInt32) (w : World) :
    Calls Try.prog 103 #[.int .u32 (x.toNat : Int), .int .i64 3] w fun e w' => e = .returned (.int .u32 ((UInt32.ofNat (x.toNat / 8)).toNat : Int)) ∧ w = w' := refshifted x 3 (by decide) w
theorem refshifted10 (x : UInt32) (w : World) :
    Calls Try.prog 103 #[.int .u32 (x.toNat : Int), .int .i64 10] w fun e w' => e = .returned (.int .u32 ((UInt32.ofNat (x.toNat / 1024)).toNat : Int)) ∧ w = w' := refshifted x 10 (by decide) w
def part (b : List UInt8) (i : Nat) : Nat → Nat
  | 0 => 0
  | j + 1 => 256 * part b i j + (b.getD (4 * i + j) 0).toNat
theorem part_lt (b : List UInt8) (i : Nat) : ∀ j, part b i j < 256 ^ j
  | 0 => by simp [part]
  | j + 1 => by
    have := part_lt b i j
    have := (b.getD (4 * i + j) 0).toNat_lt
    simp only [part, Nat.pow_succ]
    omega
theorem part_four (b : List UInt8) (i : Nat) : part b i 4 = (Sh.word (b.getD (4 * i) 0) (b.getD (4 * i + 1) 0) (b.getD (4 * i + 2) 0) (b.getD (4 * i + 3) 0)).toNat := by
  rw [word_toNat]
  simp only [part, Nat.add_zero]
  omega
theorem own_at {w : World} {base g k c n : Nat} {e : TypeId} {l : List UInt32} (h : w.ownsRow base e 1 (.slice (some ⟨g, 0, none⟩) n c) n (wcells l)) (hk : k < l.length) : w.cell? ⟨g, k, none⟩ = some (.int .u32 (((l[k]'hk).toNat : Nat) : Int)) := by
  have := h.cells (g := g) rfl k _ (wcells_at l k hk)
  rwa [add_at] at this
set_option maxRecDepth 100000 in
set_option maxHeartbeats 4000000 in
theorem refwords (b : List UInt8) (A : Option Addr) (c : Nat) (w : World) (hA : BytesAt w A b) (hl : b.length = 64) :
    Calls Try.prog 107 #[.slice A 64 c] w fun e w' => ∃ g cap, e = .returned (.slice (some ⟨g, 0, none⟩) 64 cap) ∧ w'.ownsRow w.heap.size 22 1 (.slice (some ⟨g, 0, none⟩) 64 cap) 64 (wcells (Sh.sched b 64)) ∧ Below w.heap.size w w' := by
  have HA := Lib.hid hA
  have HL := Lib.hid hl
  clear hA hl
  obtain ⟨i0, hi, hi0, hi1, hi2⟩ := info_parts infoWord
  go_enter Try.func107, Try.ntmps107
  go_wp2_with fail
  go_loopw [3, 4] (fun v i wr => ∃ k : Nat, k ≤ 16 ∧ i = .int .i64 k ∧ Hid (wr.ownsRow w.heap.size 22 1 v k (wcells (Sh.sched b k))) ∧ Hid (Below w.heap.size w wr)) (fun _ i _ => 16 - (intOf i).toNat)
  case atStart => exact ⟨0, by omega, rfl, World.ownsRow_nil _ _ _ _, Below.refl _ _⟩
  case round =>
    obtain ⟨k, hk, rfl, hO, hB⟩ := hrel
    obtain ⟨wo, rfl⟩ : ∃ wo : World, wo = wr := ⟨_, rfl⟩
    by_cases hlt : k < 16
    · go_wp2_with fail
      go_loop [5, 6] (fun n j => ∃ m : Nat, m ≤ 4 ∧ j = .int .i64 m ∧ n = .int .u32 ((part b k m : Nat) : Int)) (fun _ j => 4 - (intOf j).toNat)
      case atStart => exact ⟨0, by omega, rfl, rfl⟩
      case round =>
        obtain ⟨m, hm, rfl, rfl⟩ := hrel
        by_cases hm4 : m < 4
        · have hin : 4 * k + m < b.length := by have := HL.out; omega
          obtain ⟨bb, off, rfl, c0⟩ := HA.out.below hB.out (Nat.le_refl _) (4 * k + m) hin
          have hpl := part_lt b k m
          have hpp : (256 : Nat) ^ m ≤ 256 ^ 3 := Nat.pow_le_pow_right (by omega) (by omega)
          have HP : Hid (part b k (m + 1) = 256 * part b k m + (b[4 * k + m]'hin).toNat) := by
            unfold RowKit.Hid
            rw [part, List.getD_eq_getElem?_getD, List.getElem?_eq_getElem hin]; rfl
          have hcb : ((b[4 * k + m]'hin).toNat : Int) ≤ 255 := by have := (b[4 * k + m]'hin).toNat_lt; omega
          have hcb0 : (0 : Int) ≤ ((b[4 * k + m]'hin).toNat : Int) := by omega
          generalize (b[4 * k + m]'hin).toNat = cc at *
          generalize part b k m = pp at *
          have hp1 : (pp : Int) ≤ 16777215 := by omega
          have hp0 : (0 : Int) ≤ pp := by omega
          have r0 : (0 : Int) ≤ 4 * (k : Int) + m := by omega
          have r1 : 4 * (k : Int) + m < 64 := by omega
          have t0 : (4 * (k : Int) + m).toNat = 4 * k + m := by omega
          clear hpl hpp
          go_wp2_with fail
          go_round
          case rel => exact ⟨m + 1, by omega, by go_num, by rw [HP.out]; go_num⟩
          case measure => simp [intOf]; omega
        · obtain rfl : m = 4 := by omega
          have HN : Hid (Sh.nextW b (Sh.sched b k) = Sh.word (b.getD (4 * k) 0) (b.getD (4 * k + 1) 0) (b.getD (4 * k + 2) 0) (b.getD (4 * k + 3) 0)) := by
            unfold RowKit.Hid Sh.nextW
            rw [Sh.sched_length, if_pos hlt]
          rw [part_four, ← HN.out]
          have hbz := hB.out.size
          go_wp2_with ((at_builtin; refine wpList_append_own _ rfl _ _ 86 rfl w.heap.size 22 i0 (.int .u32 0) 1 4 Try.underlying86 hi hi0 hi1 hi2 rfl (by decide) _ _ _ rfl (hO.out.alloc _) ⟨wo.heap.size, 0, none⟩ 1 1 [.int .u32 ((Sh.nextW b (Sh.sched b k)).toNat : Int)] rfl rfl ?c1 ?c2 ?c3 ?c4 ?c5 ?_))
          case c2 => first | rfl | (intro u hu; rw [List.mem_singleton] at hu; subst hu; rfl)
          case c3 => unfold maxLen; omega
          case c4 => omega
          case c5 => first | omega | (simp; omega)
          intro v' w3 hown3 hgrow _
          have HB3 : Hid (Below w.heap.size w w3) := (hB.out.alloc hB.out.size _).grown hgrow (by simp; omega) (fun b hb => (hO.out.lt b hb).1)
          have hcell : wcells (Sh.sched b (k + 1)) = wcells (Sh.sched b k) ++ [.int .u32 ((Sh.nextW b (Sh.sched b k)).toNat : Int)] := by
            rw [Sh.sched, wcells_append]; rfl
          rw [← hcell] at hown3
          have HO3 := Lib.hid hown3
          clear hown3 hgrow hcell
          go_wp2_with fail
          go_roundw
          case rel => exact ⟨k + 1, by omega, by go_num, HO3, HB3⟩
          case measure => simp [intOf]; omega
    · obtain rfl : k = 16 := by omega
      rw [show ((16 : Nat) : Int) = 16 from rfl]
      go_wp2_with fail
      go_loopw [3, 7] (fun v i wr => ∃ k : Nat, 16 ≤ k ∧ k ≤ 64 ∧ i = .int .i64 k ∧ Hid (wr.ownsRow w.heap.size 22 1 v k (wcells (Sh.sched b k))) ∧ Hid (Below w.heap.size w wr)) (fun _ i _ => 64 - (intOf i).toNat)
      case atStart => exact ⟨16, by omega, by omega, rfl, hO, hB⟩
      case round =>
        obtain ⟨k, hk16, hk, rfl, hO, hB⟩ := hrel
        obtain ⟨g, cap, rfl, hbg, hgl⟩ := hO.out.form (by omega)
        have HSL := Lib.hid (Sh.sched_length b k)
        by_cases hlt : k < 64
        · have hk1 : k - 16 < (Sh.sched b k).length := by rw [HSL.out]; omega
          have hk2 : k - 15 < (Sh.sched b k).length := by rw [HSL.out]; omega
          have hk3 : k - 7 < (Sh.sched b k).length := by rw [HSL.out]; omega
          have hk4 : k - 2 < (Sh.sched b k).length := by rw [HSL.out]; omega
          have d1 := own_at hO.out hk1
          have d2 := own_at hO.out hk2
          have d3 := own_at hO.out hk3
          have d4 := own_at hO.out hk4
          have HCS : Hid (∀ (w' : World), (∀ j u, (wcells (Sh.sched b k))[j]? = some u → w'.cell? ⟨g, j, none⟩ = some u) → w'.cell? ⟨g, k - 16, none⟩ = some (.int .u32 ((((Sh.sched b k)[k - 16]'hk1).toNat : Nat) : Int)) ∧ w'.cell? ⟨g, k - 7, none⟩ = some (.int .u32 ((((Sh.sched b k)[k - 7]'hk3).toNat : Nat) : Int))) :=
            fun w' h => ⟨h _ _ (wcells_at _ _ hk1), h _ _ (wcells_at _ _ hk3)⟩
          have HN : Hid (Sh.nextW b (Sh.sched b k) = ((Sh.sched b k)[k - 16]'hk1) + Sh.sig0 ((Sh.sched b k)[k - 15]'hk2) + ((Sh.sched b k)[k - 7]'hk3) + Sh.sig1 ((Sh.sched b k)[k - 2]'hk4)) := by
            unfold RowKit.Hid Sh.nextW
            rw [HSL.out, if_neg (by omega)]
            simp [List.getD, List.getElem?_eq_getElem hk1, List.getElem?_eq_getElem hk2, List.getElem?_eq_getElem hk3, List.getElem?_eq_getElem hk4]
          generalize (Sh.sched b k)[k - 16]'hk1 = x1 at *
          generalize (Sh.sched b k)[k - 15]'hk2 = x2 at *
          generalize (Sh.sched b k)[k - 7]'hk3 = x3 at *
          generalize (Sh.sched b k)[k - 2]'hk4 = x4 at *
          clear hk1 hk2 hk3 hk4
          have r1 : (16 : Int) ≤ k := by omega
          have r2 : (15 : Int) ≤ k := by omega
          have r3 : (7 : Int) ≤ k := by omega
          have r4 : (2 : Int) ≤ k := by omega
          have p0 : (0 : Int) ≤ (k : Int) - 16 := by omega
          have p1 : (k : Int) - 16 < k := by omega
          have p2 : (0 : Int) ≤ (k : Int) - 15 := by omega
          have p3 : (k : Int) - 15 < k := by omega
          have p4 : (0 : Int) ≤ (k : Int) - 7 := by omega
          have p5 : (k : Int) - 7 < k := by omega
          have p6 : (0 : Int) ≤ (k : Int) - 2 := by omega
          have p7 : (k : Int) - 2 < k := by omega
          have t0 : ((k : Int) - 16).toNat = k - 16 := by omega
          have t1 : ((k : Int) - 15).toNat = k - 15 := by omega
          have t2 : ((k : Int) - 7).toNat = k - 7 := by omega
          have t3 : ((k : Int) - 2).toNat = k - 2 := by omega
          have e0 : IntKind.i64.wrap ((k : Int) - 16) = (k : Int) - 16 := IntWalk.i64_in _ (by omega)
          have e2 : IntKind.i64.wrap ((k : Int) - 7) = (k : Int) - 7 := IntWalk.i64_in _ (by omega)
          go_wp2_with (first
            | (go_at_call 109; refine (refturnedI _ _ (by decide) (by decide) _).mono ?_; rintro e w' ⟨rfl, rfl⟩)
            | (go_at_call 103; (first | (with_reducible refine (refshifted3 _ _).mono ?_) | (with_reducible refine (refshifted10 _ _).mono ?_)); rintro e w' ⟨rfl, rfl⟩))
          have hbz := hB.out.size
          go_region_held3 (fun w' => w'.cell? ⟨g, k - 16, none⟩ = some (.int .u32 (x1.toNat : Int)) ∧ w'.cell? ⟨g, k - 7, none⟩ = some (.int .u32 (x3.toNat : Int))) (first | exact HCS.out _ hkeep | go_keep)
            ((refine step_append_keep rfl _ _ 86 rfl w.heap.size 22 i0 (.int .u32 0) 1 4 Try.underlying86 hi hi0 hi1 hi2 rfl (by decide) g k cap (wcells (Sh.sched b k)) rfl ((hO.out.alloc _).drew) ⟨wr.heap.size, 0, none⟩ 1 1 [_] rfl rfl (World.news_of_block (cs := #[_]) (heap_alloc_new _ _)) (by intro u hu; rw [List.mem_singleton] at hu; subst hu; rfl) (by decide) (by unfold maxLen; omega) (by omega) (by simp; omega) ?_; intro g2 cap2 w3 hown3 hgrow hkeep hg2))
          have HB3 : Hid (Below w.heap.size w w3) := (hB.out.alloc hbz _).drew.grown hgrow (by simp; omega) (fun b hb => by injection hb; omega)
          have hcell : wcells (Sh.sched b (k + 1)) = wcells (Sh.sched b k) ++ [.int .u32 ((Sh.nextW b (Sh.sched b k)).toNat : Int)] := by
            rw [Sh.sched, wcells_append]; rfl
          rw [HN.out] at hcell
          unfold Sh.sig0 Sh.sig1 at hcell
          simp only [u_div8m, u_div1024m, u_xor, u_addw] at hown3
          rw [← hcell] at hown3
          have HO3 := Lib.hid hown3
          rename_i hHeld
          clear hHeld hown3 hgrow hcell hkeep hg2 e0 e2 t0 t1 t2 t3 p0 p1 p2 p3 p4 p5 p6 p7 r1 r2 r3 r4 d1 d2 d3 d4
          go_wp2_with fail
          go_roundw
          case rel => exact ⟨k + 1, by omega, by omega, by go_num, HO3, HB3⟩
          case measure => simp [intOf]; omega
        · obtain rfl : k = 64 := by omega
          go_wp2_with fail
          go_ret
          exact ⟨g, cap, rfl, hO.out, hB.out⟩
end Go.Proofs.Ytjhopgmionpkoaa
namespace Go.Proofs.Ytjhopgmionpkoaa
set_option maxRecDepth 20000
open Go.RowKit Mem

noncomputable def stepOps : Array Oper := findOps 3 ((Try.f99).body.getD (.exit 0))
def rz (p0 c1 c2 l m6 m7 m8 s1 s2 s3 : Bool) : Array Bool := #[p0, c1, c2, l, m6, m7, m8, s1, s2, s3]
def nf (b : Bool) : Nat := if b then 0 else 1
theorem nf0 {b : Bool} (h : nf b = 0) : b = true := by cases b <;> simp [nf] at h ⊢
theorem rdy0 : ∀ p0 c1 c2 l m6 m7 m8 s1 s2 s3 : Bool, Region.ready .any stepOps (rz p0 c1 c2 l m6 m7 m8 s1 s2 s3) = [] → (p0 && c1 && c2 && l && m6 && m7 && m8 && s1 && s2 && s3) = true := by
  decide +kernel
theorem rdy1 : Region.ready .any stepOps (rz true true true true true true true true true true) = [] := by kernel_rfl
theorem ready_spec {md : Region.Mode} {ops : Array Oper} {L : Array Bool} {i : Nat} (h : i ∈ Region.ready md ops L) : i < ops.size ∧ L.getD i true = false ∧
    ∀ on, ((ops[i]?).map fun o => o.after.any fun e => Region.binds md e && e.on == on) = some true → L.getD on false = true := by
  unfold Region.ready at h
  rw [List.mem_filter, List.mem_range, Bool.and_eq_true, Bool.not_eq_true'] at h
  obtain ⟨h1, h2, h3⟩ := h
  refine ⟨h1, h2, fun on hon => ?_⟩
  rw [Array.getElem?_eq_getElem h1] at h3 hon
  simp only [Option.map_some, Option.getD_some, Option.some.injEq] at h3 hon
  obtain ⟨e, he, hb⟩ := Array.any_eq_true'.1 hon
  rw [Bool.and_eq_true] at hb
  have := Array.all_eq_true_iff_forall_mem.1 h3 e he
  rw [hb.1] at this
  have e2 : e.on = on := by simpa using hb.2
  rw [← e2]
  simpa using this
theorem stepSize : stepOps.size = 10 := by kernel_rfl
theorem alloc45 (w : World) : (Instr.alloc 127 true (.tuple #[])).run Try.prog w = .ok (.pointer (some ⟨w.heap.size, 0, none⟩)) (w.alloc (.cells (Array.replicate 64 (.int .u32 0)) 127)) := by kernel_rfl
theorem alloc23 (w : World) : (Instr.alloc 117 true (.tuple #[])).run Try.prog w = .ok (.pointer (some ⟨w.heap.size, 0, none⟩)) (w.alloc (.cells (Array.replicate 8 (.int .u32 0)) 117)) := by kernel_rfl
theorem op0 : ∃ o, stepOps[0]? = some o ∧ o.guard = none ∧ o.dst = some 17 ∧ o.op = .move (.tmp 1) := ⟨_, rfl, rfl, rfl, rfl⟩
theorem op1 : ∃ o, stepOps[1]? = some o ∧ o.guard = none ∧ o.dst = some 18 ∧ o.op = .call { callee := .value (.func 104), args := #[.tmp 17], argTypes := #[31] } := ⟨_, rfl, rfl, rfl, rfl⟩
theorem op2 : ∃ o, stepOps[2]? = some o ∧ o.guard = none ∧ o.dst = some 19 ∧ o.op = .call { callee := .value (.func 105), args := #[], argTypes := #[] } := ⟨_, rfl, rfl, rfl, rfl⟩
theorem op3 : ∃ o, stepOps[3]? = some o ∧ o.guard = none ∧ o.dst = some 20 ∧ o.op = .load 117 (.tmp 2) := ⟨_, rfl, rfl, rfl, rfl⟩
theorem op4 : ∃ o, stepOps[4]? = some o ∧ o.guard = none ∧ o.dst = some 6 ∧ o.op = .alloc 127 := ⟨_, rfl, rfl, rfl, rfl⟩
theorem op5 : ∃ o, stepOps[5]? = some o ∧ o.guard = none ∧ o.dst = some 7 ∧ o.op = .alloc 127 := ⟨_, rfl, rfl, rfl, rfl⟩
theorem op6 : ∃ o, stepOps[6]? = some o ∧ o.guard = none ∧ o.dst = some 8 ∧ o.op = .alloc 117 := ⟨_, rfl, rfl, rfl, rfl⟩
theorem op7 : ∃ o, stepOps[7]? = some o ∧ o.guard = none ∧ o.dst = none ∧ o.op = .store 127 (.tmp 6) (.tmp 18) := ⟨_, rfl, rfl, rfl, rfl⟩
theorem op8 : ∃ o, stepOps[8]? = some o ∧ o.guard = none ∧ o.dst = none ∧ o.op = .store 127 (.tmp 7) (.tmp 19) := ⟨_, rfl, rfl, rfl, rfl⟩
theorem op9 : ∃ o, stepOps[9]? = some o ∧ o.guard = none ∧ o.dst = none ∧ o.op = .store 117 (.tmp 8) (.tmp 20) := ⟨_, rfl, rfl, rfl, rfl⟩
theorem enter_call {P : Program} {o : Oper} {a : Act} {wx : World} (f : FuncId) (fn : Func) (xs : Array Operand) (ts : Array TypeId) (ho : o.op = .call { callee := .value (.func f), args := xs, argTypes := ts })
    (hf : P.funcs[f]? = some fn) (hn : (fn.name == "runtime.NumGoroutine") = false) (hb : fn.body.isNone = false) :
    (execOp a.eval o).run P wx = .ok (.enter f (xs.map a.eval)) wx := by
  have hb' : fn.body ≠ none := by intro h; rw [h] at hb; cases hb
  have hn' : fn.name ≠ "runtime.NumGoroutine" := by simpa using hn
  unfold execOp
  simp [ho, resolve, Act.eval, invoke, Deferred.ofValue, callFunc, hf, hb', hn']
/-- the slots that the statement writes -/
def own_ (j : Nat) : Bool := j == 6 || j == 7 || j == 8 || j == 17 || j == 18 || j == 19 || j == 20
structure Fx (a0 a : Act) : Prop where
  sz : a.tmps.size = a0.tmps.size
  df : a.defers = a0.defers
  rest : ∀ j, own_ j = false → a.tmps[j]? = a0.tmps[j]?
theorem Fx.put {a0 a : Act} (h : Fx a0 a) {d : Nat} (hd : own_ d = true) (v : Value) : Fx a0 (a.put (some d) v) := by
  refine ⟨(Act.size_put _ _ _).trans h.sz, (Act.defers_put' _ _ _).trans h.df, fun j hj => ?_⟩
  rw [← h.rest j hj]
  show (a.tmps.setIfInBounds d v)[j]? = _
  rw [Array.getElem?_setIfInBounds_ne]
  intro e
  rw [e, hj] at hd
  cases hd
theorem Fx.eval {a0 a : Act} (h : Fx a0 a) {j : Nat} (hj : own_ j = false) : a.eval (.tmp j) = a0.eval (.tmp j) := by
  simp only [Act.eval, Array.getD_eq_getD_getElem?, h.rest j hj]
section
variable (W0 : World) (V18 V19 V20 : Array Value) (A : Option Addr) (c : Nat)
/-- what holds while the statement is carried out -/
structure Ph (a0 : Act) (p0 c1 c2 l m6 m7 m8 s1 s2 s3 : Bool) (g6 g7 g8 : Nat) (a : Act) (w : World) : Prop where
  fx : Fx a0 a
  below : Below W0.heap.size W0 w
  f17 : p0 = true → a.eval (.tmp 17) = .slice A 64 c
  f18 : c1 = true → a.eval (.tmp 18) = .agg V18
  f19 : c2 = true → a.eval (.tmp 19) = .agg V19
  f20 : l = true → a.eval (.tmp 20) = .agg V20
  f6 : m6 = true → a.eval (.tmp 6) = .pointer (some ⟨g6, 0, none⟩) ∧ W0.heap.size ≤ g6 ∧ ∃ Z : Array Value, w.heap[g6]? = some (.cells Z 127 (0, 0)) ∧ Z.size = 64 ∧ (s1 = true → Z = V18)
  f7 : m7 = true → a.eval (.tmp 7) = .pointer (some ⟨g7, 0, none⟩) ∧ W0.heap.size ≤ g7 ∧ ∃ Z : Array Value, w.heap[g7]? = some (.cells Z 127 (0, 0)) ∧ Z.size = 64 ∧ (s2 = true → Z = V19)
  f8 : m8 = true → a.eval (.tmp 8) = .pointer (some ⟨g8, 0, none⟩) ∧ W0.heap.size ≤ g8 ∧ ∃ Z : Array Value, w.heap[g8]? = some (.cells Z 117 (0, 0)) ∧ Z.size = 8 ∧ (s3 = true → Z = V20)
  ne : m6 = true → m7 = true → g6 ≠ g7
  o6 : s1 = true → m6 = true
  o7 : s2 = true → m7 = true
  o8 : s3 = true → m8 = true
theorem lt_of_heap {w : World} {g : Nat} {o : Obj} (h : w.heap[g]? = some o) : g < w.heap.size := (Array.getElem?_eq_some_iff.1 h).1
variable {W0 V18 V19 V20 A c} {a0 : Act} {p0 c1 c2 l m6 m7 m8 s1 s2 s3 : Bool} {g6 g7 g8 : Nat} {a : Act} {w : World}
/-- a step that only makes memory, or leaves all as it was, and writes one slot that no later fact but its own speaks of -/
theorem Ph.world (h : Ph W0 V18 V19 V20 A c a0 p0 c1 c2 l m6 m7 m8 s1 s2 s3 g6 g7 g8 a w) {w' : World} (hb : Below w.heap.size w w') : Ph W0 V18 V19 V20 A c a0 p0 c1 c2 l m6 m7 m8 s1 s2 s3 g6 g7 g8 a w' := by
  refine ⟨h.fx, h.below.trans (hb.mono h.below.size), h.f17, h.f18, h.f19, h.f20, fun e => ?_, fun e => ?_, fun e => ?_, h.ne, h.o6, h.o7, h.o8⟩
  · obtain ⟨h1, h2, Z, h3, h4⟩ := h.f6 e
    exact ⟨h1, h2, Z, (hb.block _ (lt_of_heap h3)).trans h3, h4⟩
  · obtain ⟨h1, h2, Z, h3, h4⟩ := h.f7 e
    exact ⟨h1, h2, Z, (hb.block _ (lt_of_heap h3)).trans h3, h4⟩
  · obtain ⟨h1, h2, Z, h3, h4⟩ := h.f8 e
    exact ⟨h1, h2, Z, (hb.block _ (lt_of_heap h3)).trans h3, h4⟩
theorem Ph.p17 (h : Ph W0 V18 V19 V20 A c a0 p0 c1 c2 l m6 m7 m8 s1 s2 s3 g6 g7 g8 a w) (hs : 20 < a0.tmps.size) : Ph W0 V18 V19 V20 A c a0 true c1 c2 l m6 m7 m8 s1 s2 s3 g6 g7 g8 (a.put (some 17) (.slice A 64 c)) w :=
  ⟨h.fx.put rfl _, h.below, fun _ => Act.eval_put_same _ _ _ (by rw [h.fx.sz]; omega), fun e => (Act.eval_put_ne _ 17 18 _ (by decide)).trans (h.f18 e), fun e => (Act.eval_put_ne _ 17 19 _ (by decide)).trans (h.f19 e), fun e => (Act.eval_put_ne _ 17 20 _ (by decide)).trans (h.f20 e), fun e => ⟨(Act.eval_put_ne _ 17 6 _ (by decide)).trans (h.f6 e).1, (h.f6 e).2⟩, fun e => ⟨(Act.eval_put_ne _ 17 7 _ (by decide)).trans (h.f7 e).1, (h.f7 e).2⟩, fun e => ⟨(Act.eval_put_ne _ 17 8 _ (by decide)).trans (h.f8 e).1, (h.f8 e).2⟩, h.ne, h.o6, h.o7, h.o8⟩
theorem Ph.p18 (h : Ph W0 V18 V19 V20 A c a0 p0 c1 c2 l m6 m7 m8 s1 s2 s3 g6 g7 g8 a w) (hs : 20 < a0.tmps.size) : Ph W0 V18 V19 V20 A c a0 p0 true c2 l m6 m7 m8 s1 s2 s3 g6 g7 g8 (a.put (some 18) (.agg V18)) w :=
  ⟨h.fx.put rfl _, h.below, fun e => (Act.eval_put_ne _ 18 17 _ (by decide)).trans (h.f17 e), fun _ => Act.eval_put_same _ _ _ (by rw [h.fx.sz]; omega), fun e => (Act.eval_put_ne _ 18 19 _ (by decide)).trans (h.f19 e), fun e => (Act.eval_put_ne _ 18 20 _ (by decide)).trans (h.f20 e), fun e => ⟨(Act.eval_put_ne _ 18 6 _ (by decide)).trans (h.f6 e).1, (h.f6 e).2⟩, fun e => ⟨(Act.eval_put_ne _ 18 7 _ (by decide)).trans (h.f7 e).1, (h.f7 e).2⟩, fun e => ⟨(Act.eval_put_ne _ 18 8 _ (by decide)).trans (h.f8 e).1, (h.f8 e).2⟩, h.ne, h.o6, h.o7, h.o8⟩
theorem Ph.p19 (h : Ph W0 V18 V19 V20 A c a0 p0 c1 c2 l m6 m7 m8 s1 s2 s3 g6 g7 g8 a w) (hs : 20 < a0.tmps.size) : Ph W0 V18 V19 V20 A c a0 p0 c1 true l m6 m7 m8 s1 s2 s3 g6 g7 g8 (a.put (some 19) (.agg V19)) w :=
  ⟨h.fx.put rfl _, h.below, fun e => (Act.eval_put_ne _ 19 17 _ (by decide)).trans (h.f17 e), fun e => (Act.eval_put_ne _ 19 18 _ (by decide)).trans (h.f18 e), fun _ => Act.eval_put_same _ _ _ (by rw [h.fx.sz]; omega), fun e => (Act.eval_put_ne _ 19 20 _ (by decide)).trans (h.f20 e), fun e => ⟨(Act.eval_put_ne _ 19 6 _ (by decide)).trans (h.f6 e).1, (h.f6 e).2⟩, fun e => ⟨(Act.eval_put_ne _ 19 7 _ (by decide)).trans (h.f7 e).1, (h.f7 e).2⟩, fun e => ⟨(Act.eval_put_ne _ 19 8 _ (by decide)).trans (h.f8 e).1, (h.f8 e).2⟩, h.ne, h.o6, h.o7, h.o8⟩
theorem Ph.p20 (h : Ph W0 V18 V19 V20 A c a0 p0 c1 c2 l m6 m7 m8 s1 s2 s3 g6 g7 g8 a w) (hs : 20 < a0.tmps.size) : Ph W0 V18 V19 V20 A c a0 p0 c1 c2 true m6 m7 m8 s1 s2 s3 g6 g7 g8 (a.put (some 20) (.agg V20)) w :=
  ⟨h.fx.put rfl _, h.below, fun e => (Act.eval_put_ne _ 20 17 _ (by decide)).trans (h.f17 e), fun e => (Act.eval_put_ne _ 20 18 _ (by decide)).trans (h.f18 e), fun e => (Act.eval_put_ne _ 20 19 _ (by decide)).trans (h.f19 e), fun _ => Act.eval_put_same _ _ _ (by rw [h.fx.sz]; omega), fun e => ⟨(Act.eval_put_ne _ 20 6 _ (by decide)).trans (h.f6 e).1, (h.f6 e).2⟩, fun e => ⟨(Act.eval_put_ne _ 20 7 _ (by decide)).trans (h.f7 e).1, (h.f7 e).2⟩, fun e => ⟨(Act.eval_put_ne _ 20 8 _ (by decide)).trans (h.f8 e).1, (h.f8 e).2⟩, h.ne, h.o6, h.o7, h.o8⟩
theorem Ph.a6 (h : Ph W0 V18 V19 V20 A c a0 p0 c1 c2 l m6 m7 m8 s1 s2 s3 g6 g7 g8 a w) (hs : 20 < a0.tmps.size) (hsf : s1 = false) : Ph W0 V18 V19 V20 A c a0 p0 c1 c2 l true m7 m8 s1 s2 s3 w.heap.size g7 g8 (a.put (some 6) (.pointer (some ⟨w.heap.size, 0, none⟩))) (w.alloc (.cells (Array.replicate 64 (.int .u32 0)) 127)) := by
  have h' := h.world (w' := w.alloc (.cells (Array.replicate 64 (.int .u32 0)) 127)) ((Below.refl _ _).alloc (Nat.le_refl _) _)
  exact ⟨h.fx.put rfl _, h'.below, fun e => (Act.eval_put_ne _ 6 17 _ (by decide)).trans (h'.f17 e), fun e => (Act.eval_put_ne _ 6 18 _ (by decide)).trans (h'.f18 e), fun e => (Act.eval_put_ne _ 6 19 _ (by decide)).trans (h'.f19 e), fun e => (Act.eval_put_ne _ 6 20 _ (by decide)).trans (h'.f20 e), fun _ => ⟨Act.eval_put_same _ _ _ (by rw [h.fx.sz]; omega), h.below.size, _, heap_alloc_new _ _, by simp, fun e => by rw [hsf] at e; cases e⟩, fun e => ⟨(Act.eval_put_ne _ 6 7 _ (by decide)).trans (h'.f7 e).1, (h'.f7 e).2⟩, fun e => ⟨(Act.eval_put_ne _ 6 8 _ (by decide)).trans (h'.f8 e).1, (h'.f8 e).2⟩, fun _ e2 e3 => by obtain ⟨_, _, Z, hz, _⟩ := h.f7 e2; have := lt_of_heap hz; omega, fun _ => rfl, h.o7, h.o8⟩
theorem Ph.a7 (h : Ph W0 V18 V19 V20 A c a0 p0 c1 c2 l m6 m7 m8 s1 s2 s3 g6 g7 g8 a w) (hs : 20 < a0.tmps.size) (hsf : s2 = false) : Ph W0 V18 V19 V20 A c a0 p0 c1 c2 l m6 true m8 s1 s2 s3 g6 w.heap.size g8 (a.put (some 7) (.pointer (some ⟨w.heap.size, 0, none⟩))) (w.alloc (.cells (Array.replicate 64 (.int .u32 0)) 127)) := by
  have h' := h.world (w' := w.alloc (.cells (Array.replicate 64 (.int .u32 0)) 127)) ((Below.refl _ _).alloc (Nat.le_refl _) _)
  exact ⟨h.fx.put rfl _, h'.below, fun e => (Act.eval_put_ne _ 7 17 _ (by decide)).trans (h'.f17 e), fun e => (Act.eval_put_ne _ 7 18 _ (by decide)).trans (h'.f18 e), fun e => (Act.eval_put_ne _ 7 19 _ (by decide)).trans (h'.f19 e), fun e => (Act.eval_put_ne _ 7 20 _ (by decide)).trans (h'.f20 e), fun e => ⟨(Act.eval_put_ne _ 7 6 _ (by decide)).trans (h'.f6 e).1, (h'.f6 e).2⟩, fun _ => ⟨Act.eval_put_same _ _ _ (by rw [h.fx.sz]; omega), h.below.size, _, heap_alloc_new _ _, by simp, fun e => by rw [hsf] at e; cases e⟩, fun e => ⟨(Act.eval_put_ne _ 7 8 _ (by decide)).trans (h'.f8 e).1, (h'.f8 e).2⟩, fun e2 _ e3 => by obtain ⟨_, _, Z, hz, _⟩ := h.f6 e2; have := lt_of_heap hz; omega, h.o6, fun _ => rfl, h.o8⟩
theorem Ph.a8 (h : Ph W0 V18 V19 V20 A c a0 p0 c1 c2 l m6 m7 m8 s1 s2 s3 g6 g7 g8 a w) (hs : 20 < a0.tmps.size) (hsf : s3 = false) : Ph W0 V18 V19 V20 A c a0 p0 c1 c2 l m6 m7 true s1 s2 s3 g6 g7 w.heap.size (a.put (some 8) (.pointer (some ⟨w.heap.size, 0, none⟩))) (w.alloc (.cells (Array.replicate 8 (.int .u32 0)) 117)) := by
  have h' := h.world (w' := w.alloc (.cells (Array.replicate 8 (.int .u32 0)) 117)) ((Below.refl _ _).alloc (Nat.le_refl _) _)
  exact ⟨h.fx.put rfl _, h'.below, fun e => (Act.eval_put_ne _ 8 17 _ (by decide)).trans (h'.f17 e), fun e => (Act.eval_put_ne _ 8 18 _ (by decide)).trans (h'.f18 e), fun e => (Act.eval_put_ne _ 8 19 _ (by decide)).trans (h'.f19 e), fun e => (Act.eval_put_ne _ 8 20 _ (by decide)).trans (h'.f20 e), fun e => ⟨(Act.eval_put_ne _ 8 6 _ (by decide)).trans (h'.f6 e).1, (h'.f6 e).2⟩, fun e => ⟨(Act.eval_put_ne _ 8 7 _ (by decide)).trans (h'.f7 e).1, (h'.f7 e).2⟩, fun _ => ⟨Act.eval_put_same _ _ _ (by rw [h.fx.sz]; omega), h.below.size, _, heap_alloc_new _ _, by simp, fun e => by rw [hsf] at e; cases e⟩, h.ne, h.o6, h.o7, fun _ => rfl⟩
theorem Ph.s6 (h : Ph W0 V18 V19 V20 A c a0 p0 c1 c2 l m6 m7 m8 s1 s2 s3 g6 g7 g8 a w) (hm : m6 = true) (hV : V18.size = 64) : Ph W0 V18 V19 V20 A c a0 p0 c1 c2 l m6 m7 m8 true s2 s3 g6 g7 g8 a (w.setRow g6 V18) := by
  refine ⟨h.fx, below_setRow h.below (h.f6 hm).2.1, h.f17, h.f18, h.f19, h.f20, fun e => by
    obtain ⟨h1, h2, Z, h3, h4⟩ := h.f6 e
    exact ⟨h1, h2, _, setRow_heap w g6 Z _ _ (0, 0) h3, hV, fun _ => rfl⟩, fun e => by
    obtain ⟨h1, h2, Z, h3, h4⟩ := h.f7 e
    exact ⟨h1, h2, Z, by
      rw [setRow_other _ _ _ _ (fun x => h.ne hm e (x.symm))]; exact h3, h4⟩, fun e => by
    obtain ⟨h1, h2, Z, h3, h4⟩ := h.f8 e
    exact ⟨h1, h2, Z, by
      rw [setRow_other _ _ _ _ (fun x => by subst x; obtain ⟨_, _, Z2, k3, _⟩ := h.f6 hm; rw [h3] at k3; injection k3 with k3; injection k3 with _ k3; revert k3; decide)]; exact h3, h4⟩, h.ne, fun _ => hm, h.o7, h.o8⟩
theorem Ph.s7 (h : Ph W0 V18 V19 V20 A c a0 p0 c1 c2 l m6 m7 m8 s1 s2 s3 g6 g7 g8 a w) (hm : m7 = true) (hV : V19.size = 64) : Ph W0 V18 V19 V20 A c a0 p0 c1 c2 l m6 m7 m8 s1 true s3 g6 g7 g8 a (w.setRow g7 V19) := by
  refine ⟨h.fx, below_setRow h.below (h.f7 hm).2.1, h.f17, h.f18, h.f19, h.f20, fun e => by
    obtain ⟨h1, h2, Z, h3, h4⟩ := h.f6 e
    exact ⟨h1, h2, Z, by
      rw [setRow_other _ _ _ _ (fun x => h.ne e hm x)]; exact h3, h4⟩, fun e => by
    obtain ⟨h1, h2, Z, h3, h4⟩ := h.f7 e
    exact ⟨h1, h2, _, setRow_heap w g7 Z _ _ (0, 0) h3, hV, fun _ => rfl⟩, fun e => by
    obtain ⟨h1, h2, Z, h3, h4⟩ := h.f8 e
    exact ⟨h1, h2, Z, by
      rw [setRow_other _ _ _ _ (fun x => by subst x; obtain ⟨_, _, Z2, k3, _⟩ := h.f7 hm; rw [h3] at k3; injection k3 with k3; injection k3 with _ k3; revert k3; decide)]; exact h3, h4⟩, h.ne, h.o6, fun _ => hm, h.o8⟩
theorem Ph.s8 (h : Ph W0 V18 V19 V20 A c a0 p0 c1 c2 l m6 m7 m8 s1 s2 s3 g6 g7 g8 a w) (hm : m8 = true) (hV : V20.size = 8) : Ph W0 V18 V19 V20 A c a0 p0 c1 c2 l m6 m7 m8 s1 s2 true g6 g7 g8 a (w.setRow g8 V20) := by
  refine ⟨h.fx, below_setRow h.below (h.f8 hm).2.1, h.f17, h.f18, h.f19, h.f20, fun e => by
    obtain ⟨h1, h2, Z, h3, h4⟩ := h.f6 e
    exact ⟨h1, h2, Z, by
      rw [setRow_other _ _ _ _ (fun x => by subst x; obtain ⟨_, _, Z2, k3, _⟩ := h.f8 hm; rw [h3] at k3; injection k3 with k3; injection k3 with _ k3; revert k3; decide)]; exact h3, h4⟩, fun e => by
    obtain ⟨h1, h2, Z, h3, h4⟩ := h.f7 e
    exact ⟨h1, h2, Z, by
      rw [setRow_other _ _ _ _ (fun x => by subst x; obtain ⟨_, _, Z2, k3, _⟩ := h.f8 hm; rw [h3] at k3; injection k3 with k3; injection k3 with _ k3; revert k3; decide)]; exact h3, h4⟩, fun e => by
    obtain ⟨h1, h2, Z, h3, h4⟩ := h.f8 e
    exact ⟨h1, h2, _, setRow_heap w g8 Z _ _ (0, 0) h3, hV, fun _ => rfl⟩, h.ne, h.o6, h.o7, fun _ => hm⟩
end
theorem stepRegion {Q : Exit → Act → World → Prop} (b : List UInt8) (V20 : Array Value) (A : Option Addr) (c g0 : Nat) (a0 : Act) (W0 : World) (hs : 20 < a0.tmps.size)
    (e1 : a0.eval (.tmp 1) = .slice A 64 c) (e2 : a0.eval (.tmp 2) = .pointer (some ⟨g0, 0, none⟩)) (hg0 : W0.heap[g0]? = some (.cells V20 117 (0, 0))) (hV20 : V20.size = 8) (hone : V20.all (·.oneCell') = true)
    (hA : BytesAt W0 A b) (hl : b.length = 64)
    (hQ : ∀ g6 g7 g8 a w, Ph W0 (wcells (Sh.sched b 64)).toArray (wcells Sh.ks).toArray V20 A c a0 true true true true true true true true true true g6 g7 g8 a w → Q .normal a w) :
    wpAny Try.prog .any stepOps Q 10 (Array.replicate 10 false) a0 W0.drew := by
  have hV18 : (wcells (Sh.sched b 64)).toArray.size = 64 := by simp [wcells_length, Sh.sched_length]
  have hV19 : (wcells Sh.ks).toArray.size = 64 := by simp [wcells_length, Sh.ks_length]
  have hi45 : (Try.prog.info? 127).map (·.size) = some 64 := by kernel_rfl
  have hi23 : (Try.prog.info? 117).map (·.size) = some 8 := by kernel_rfl
  refine wpAny_inv (fun f L a w => ∃ (p0 c1 c2 l m6 m7 m8 s1 s2 s3 : Bool) (g6 g7 g8 : Nat), L = rz p0 c1 c2 l m6 m7 m8 s1 s2 s3 ∧ f = nf p0 + nf c1 + nf c2 + nf l + nf m6 + nf m7 + nf m8 + nf s1 + nf s2 + nf s3 ∧
    Ph W0 (wcells (Sh.sched b 64)).toArray (wcells Sh.ks).toArray V20 A c a0 p0 c1 c2 l m6 m7 m8 s1 s2 s3 g6 g7 g8 a w) ?h0 ?hs 10 _ _ _ ?st
  case st =>
    refine ⟨false, false, false, false, false, false, false, false, false, false, 0, 0, 0, rfl, rfl, ⟨rfl, rfl, fun _ _ => rfl⟩, (Below.refl _ _).drew, ?_, ?_, ?_, ?_, ?_, ?_, ?_, ?_, ?_, ?_, ?_⟩
    all_goals (intro e; cases e)
  case h0 =>
    rintro L a w ⟨p0, c1, c2, l, m6, m7, m8, s1, s2, s3, g6, g7, g8, rfl, hf, h⟩
    have key : p0 = true ∧ c1 = true ∧ c2 = true ∧ l = true ∧ m6 = true ∧ m7 = true ∧ m8 = true ∧ s1 = true ∧ s2 = true ∧ s3 = true := by
      exact ⟨nf0 (by omega), nf0 (by omega), nf0 (by omega), nf0 (by omega), nf0 (by omega), nf0 (by omega), nf0 (by omega), nf0 (by omega), nf0 (by omega), nf0 (by omega)⟩
    obtain ⟨rfl, rfl, rfl, rfl, rfl, rfl, rfl, rfl, rfl, rfl⟩ := key
    exact ⟨rdy1, hQ _ _ _ _ _ h⟩
  case hs =>
    rintro f L a w ⟨p0, c1, c2, l, m6, m7, m8, s1, s2, s3, g6, g7, g8, rfl, hf, h⟩
    refine ⟨fun e => ?_, fun i hi => ?_⟩
    · have := rdy0 _ _ _ _ _ _ _ _ _ _ e
      simp only [Bool.and_eq_true] at this
      obtain ⟨⟨⟨⟨⟨⟨⟨⟨⟨rfl, rfl⟩, rfl⟩, rfl⟩, rfl⟩, rfl⟩, rfl⟩, rfl⟩, rfl⟩, rfl⟩ := this
      simp [nf] at hf
    · obtain ⟨hlt, hfl, hneed⟩ := ready_spec hi
      rw [stepSize] at hlt
      have hcnt : ∀ x y : Bool, x = false → nf x = nf true + 1 := by rintro _ _ rfl; rfl
      rcases (show i = 0 ∨ i = 1 ∨ i = 2 ∨ i = 3 ∨ i = 4 ∨ i = 5 ∨ i = 6 ∨ i = 7 ∨ i = 8 ∨ i = 9 by omega) with rfl | rfl | rfl | rfl | rfl | rfl | rfl | rfl | rfl | rfl
      · obtain rfl : p0 = false := hfl
        obtain ⟨o, ho, hg, hd, hop⟩ := op0
        refine wpOp_of ho hg (wp_move_ _ hop ⟨true, c1, c2, l, m6, m7, m8, s1, s2, s3, g6, g7, g8, rfl, by simp only [nf] at hf ⊢; simp at hf ⊢; omega, ?_⟩)
        rw [hd, h.fx.eval rfl, e1]
        exact h.p17 hs
      · obtain rfl : c1 = false := hfl
        obtain ⟨o, ho, hg, hd, hop⟩ := op1
        have hp : p0 = true := hneed 0 (by kernel_rfl)
        have hv : (#[Operand.tmp 17] : Array Operand).map a.eval = #[.slice A 64 c] := by simp [h.f17 hp]
        refine wpOp_of ho hg (wp_call_ _ _ _ _ hop hv (fun wx => by rw [← hv]; exact enter_call _ Try.f104 _ _ hop Try.func104 (by kernel_rfl) (by kernel_rfl)) ?_)
        refine (shaschedule b A c w (hA.below h.below (Nat.le_refl _)) hl).mono ?_
        rintro e w' ⟨rfl, hb⟩
        refine ⟨_, rfl, p0, true, c2, l, m6, m7, m8, s1, s2, s3, g6, g7, g8, rfl, by simp only [nf] at hf ⊢; simp at hf ⊢; omega, ?_⟩
        rw [hd]
        exact (h.world hb).p18 hs
      · obtain rfl : c2 = false := hfl
        obtain ⟨o, ho, hg, hd, hop⟩ := op2
        have hv : (#[] : Array Operand).map a.eval = #[] := by simp
        refine wpOp_of ho hg (wp_call_ _ _ _ #[] hop hv (fun wx => by rw [← hv]; exact enter_call _ Try.f105 _ _ hop Try.func105 (by kernel_rfl) (by kernel_rfl)) ?_)
        refine (shakeys w).mono ?_
        rintro e w' ⟨rfl, hb⟩
        refine ⟨_, rfl, p0, c1, true, l, m6, m7, m8, s1, s2, s3, g6, g7, g8, rfl, by simp only [nf] at hf ⊢; simp at hf ⊢; omega, ?_⟩
        rw [hd]
        exact (h.world hb).p19 hs
      · obtain rfl : l = false := hfl
        obtain ⟨o, ho, hg, hd, hop⟩ := op3
        refine wpOp_of ho hg (wp_load_row _ _ hop g0 ((h.fx.eval rfl).trans e2) _ _ _ (.array 8 22) ((h.below.block _ (lt_of_heap hg0)).trans hg0) (by kernel_rfl) rfl (by rw [hi23, hV20]) ⟨p0, c1, c2, true, m6, m7, m8, s1, s2, s3, g6, g7, g8, rfl, by simp only [nf] at hf ⊢; simp at hf ⊢; omega, ?_⟩)
        rw [hd]
        exact h.p20 hs
      · obtain rfl : m6 = false := hfl
        obtain ⟨o, ho, hg, hd, hop⟩ := op4
        have hsf : s1 = false := by
          cases hx : s1 with
          | false => rfl
          | true => exact absurd (h.o6 hx) (by decide)
        · refine wpOp_of ho hg (wp_alloc_ _ _ hop (alloc45 w) ⟨p0, c1, c2, l, true, m7, m8, s1, s2, s3, w.heap.size, g7, g8, rfl, by simp only [nf] at hf ⊢; simp at hf ⊢; omega, ?_⟩)
          rw [hd]
          exact h.a6 hs hsf
      · obtain rfl : m7 = false := hfl
        obtain ⟨o, ho, hg, hd, hop⟩ := op5
        have hsf : s2 = false := by
          cases hx : s2 with
          | false => rfl
          | true => exact absurd (h.o7 hx) (by decide)
        · refine wpOp_of ho hg (wp_alloc_ _ _ hop (alloc45 w) ⟨p0, c1, c2, l, m6, true, m8, s1, s2, s3, g6, w.heap.size, g8, rfl, by simp only [nf] at hf ⊢; simp at hf ⊢; omega, ?_⟩)
          rw [hd]
          exact h.a7 hs hsf
      · obtain rfl : m8 = false := hfl
        obtain ⟨o, ho, hg, hd, hop⟩ := op6
        have hsf : s3 = false := by
          cases hx : s3 with
          | false => rfl
          | true => exact absurd (h.o8 hx) (by decide)
        · refine wpOp_of ho hg (wp_alloc_ _ _ hop (alloc23 w) ⟨p0, c1, c2, l, m6, m7, true, s1, s2, s3, g6, g7, w.heap.size, rfl, by simp only [nf] at hf ⊢; simp at hf ⊢; omega, ?_⟩)
          rw [hd]
          exact h.a8 hs hsf
      · obtain rfl : s1 = false := hfl
        obtain ⟨o, ho, hg, hd, hop⟩ := op7
        have hm : m6 = true := hneed 4 (by kernel_rfl)
        have hc : c1 = true := hneed 1 (by kernel_rfl)
        obtain ⟨k1, k2, Z, k3, k4, k5⟩ := h.f6 hm
        refine wpOp_of ho hg (wp_store_row _ _ _ hop g6 _ k1 (h.f18 hc) _ _ k3 (by rw [hi45, hV18]) (by rw [hV18]; exact k4) (wcells_one _) ⟨p0, c1, c2, l, m6, m7, m8, true, s2, s3, g6, g7, g8, rfl, by simp only [nf] at hf ⊢; simp at hf ⊢; omega, ?_⟩)
        rw [hd]
        exact h.s6 hm hV18
      · obtain rfl : s2 = false := hfl
        obtain ⟨o, ho, hg, hd, hop⟩ := op8
        have hm : m7 = true := hneed 5 (by kernel_rfl)
        have hc : c2 = true := hneed 2 (by kernel_rfl)
        obtain ⟨k1, k2, Z, k3, k4, k5⟩ := h.f7 hm
        refine wpOp_of ho hg (wp_store_row _ _ _ hop g7 _ k1 (h.f19 hc) _ _ k3 (by rw [hi45, hV19]) (by rw [hV19]; exact k4) (wcells_one _) ⟨p0, c1, c2, l, m6, m7, m8, s1, true, s3, g6, g7, g8, rfl, by simp only [nf] at hf ⊢; simp at hf ⊢; omega, ?_⟩)
        rw [hd]
        exact h.s7 hm hV19
      · obtain rfl : s3 = false := hfl
        obtain ⟨o, ho, hg, hd, hop⟩ := op9
        have hm : m8 = true := hneed 6 (by kernel_rfl)
        have hc : l = true := hneed 3 (by kernel_rfl)
        obtain ⟨k1, k2, Z, k3, k4, k5⟩ := h.f8 hm
        refine wpOp_of ho hg (wp_store_row _ _ _ hop g8 _ k1 (h.f20 hc) _ _ k3 (by rw [hi23, hV20]) (by rw [hV20]; exact k4) hone ⟨p0, c1, c2, l, m6, m7, m8, s1, s2, true, g6, g7, g8, rfl, by simp only [nf] at hf ⊢; simp at hf ⊢; omega, ?_⟩)
        rw [hd]
        exact h.s8 hm hV20
end Go.Proofs.Ytjhopgmionpkoaa
namespace Go.Proofs.Ytjhopgmionpkoaa
set_option maxRecDepth 20000
open Go.RowKit Mem

/-- the state behind n blocks -/
def runN : Nat → Sh.St → List UInt8 → Sh.St
  | 0, s, _ => s
  | n + 1, s, b => runN n (Sh.step s (b.take 64)) (b.drop 64)
def setZ (s : Sh.St) (b : List UInt8) : Nat → Sh.St
  | 0 => s
  | k + 1 => Sh.step (setZ s b k) ((b.drop (64 * k)).take 64)
theorem setZ_shift (s : Sh.St) (b : List UInt8) : ∀ k, setZ (Sh.step s (b.take 64)) (b.drop 64) k = setZ s b (k + 1)
  | 0 => by simp [setZ]
  | k + 1 => by rw [setZ, setZ_shift s b k, setZ, List.drop_drop]; congr 3; omega
def StepOk : Prop := ∀ (s : Sh.St) (b : List UInt8) (A : Option Addr) (c : Nat) (w : World), BytesAt w A b → b.length = 64 →
    Calls Try.prog 99 #[.agg (wcells (Sh.stL s)).toArray, .slice A 64 c] w fun e w' => e = .returned (.tuple #[.agg (wcells (Sh.stL (Sh.step s b))).toArray, .int .i64 0]) ∧ Below w.heap.size w w'
def sliceLen2 : Value → Nat
  | .slice _ l _ => l
  | _ => 0
theorem StepOk.wide (h : StepOk) (s : Sh.St) (b : List UInt8) (A : Option Addr) (c : Nat) (w : World) (hA : BytesAt w A b) (hl : b.length = 64) :
    Calls Try.prog 99 #[.agg #[.int .u32 (s.a.toNat : Int), .int .u32 (s.b.toNat : Int), .int .u32 (s.c.toNat : Int), .int .u32 (s.d.toNat : Int), .int .u32 (s.e.toNat : Int), .int .u32 (s.f.toNat : Int), .int .u32 (s.g.toNat : Int), .int .u32 (s.h.toNat : Int)], .slice A 64 c] w
      fun e w' => ∃ t, t = Sh.step s b ∧ e = .returned (.tuple #[.agg #[.int .u32 (t.a.toNat : Int), .int .u32 (t.b.toNat : Int), .int .u32 (t.c.toNat : Int), .int .u32 (t.d.toNat : Int), .int .u32 (t.e.toNat : Int), .int .u32 (t.f.toNat : Int), .int .u32 (t.g.toNat : Int), .int .u32 (t.h.toNat : Int)], .int .i64 0]) ∧ Below w.heap.size w w' :=
  (h s b A c w hA hl).mono fun _ _ ⟨he, hb⟩ => ⟨Sh.step s b, rfl, he, hb⟩
theorem set8u {W : World} {g : Nat} {t : TypeId} {c0 c1 c2 c3 c4 c5 c6 c7 : Value} (h : W.heap[g]? = some (.cells #[c0, c1, c2, c3, c4, c5, c6, c7] t (0, 0))) (u0 u1 u2 u3 u4 u5 u6 u7 : Value) :
    ((((((((W.setCell ⟨g, 0, none⟩ u0).setCell ⟨g, 1, none⟩ u1).setCell ⟨g, 2, none⟩ u2).setCell ⟨g, 3, none⟩ u3).setCell ⟨g, 4, none⟩ u4).setCell ⟨g, 5, none⟩ u5).setCell ⟨g, 6, none⟩ u6).setCell ⟨g, 7, none⟩ u7).heap[g]? = some (.cells #[u0, u1, u2, u3, u4, u5, u6, u7] t (0, 0)) := by
  have h0 := heap_setCell_same _ g 0 _ t u0 h
  have h1 := heap_setCell_same _ g 1 _ t u1 h0
  have h2 := heap_setCell_same _ g 2 _ t u2 h1
  have h3 := heap_setCell_same _ g 3 _ t u3 h2
  have h4 := heap_setCell_same _ g 4 _ t u4 h3
  have h5 := heap_setCell_same _ g 5 _ t u5 h4
  have h6 := heap_setCell_same _ g 6 _ t u6 h5
  have h7 := heap_setCell_same _ g 7 _ t u7 h6
  rw [h7]
  simp only [List.setIfInBounds_toArray, List.set_cons_zero, List.set_cons_succ]
theorem set8u_far {W : World} {g j : Nat} (hj : j ≠ g) (u0 u1 u2 u3 u4 u5 u6 u7 : Value) : ((((((((W.setCell ⟨g, 0, none⟩ u0).setCell ⟨g, 1, none⟩ u1).setCell ⟨g, 2, none⟩ u2).setCell ⟨g, 3, none⟩ u3).setCell ⟨g, 4, none⟩ u4).setCell ⟨g, 5, none⟩ u5).setCell ⟨g, 6, none⟩ u6).setCell ⟨g, 7, none⟩ u7).heap[j]? = W.heap[j]? := by
  rw [heap_setCell_other _ _ _ _ hj, heap_setCell_other _ _ _ _ hj, heap_setCell_other _ _ _ _ hj, heap_setCell_other _ _ _ _ hj, heap_setCell_other _ _ _ _ hj, heap_setCell_other _ _ _ _ hj, heap_setCell_other _ _ _ _ hj, heap_setCell_other _ _ _ _ hj]
theorem set8u_below {B : Nat} {W0 W : World} {g : Nat} (h : Below B W0 W) (hg : B ≤ g) (u0 u1 u2 u3 u4 u5 u6 u7 : Value) : Below B W0 ((((((((W.setCell ⟨g, 0, none⟩ u0).setCell ⟨g, 1, none⟩ u1).setCell ⟨g, 2, none⟩ u2).setCell ⟨g, 3, none⟩ u3).setCell ⟨g, 4, none⟩ u4).setCell ⟨g, 5, none⟩ u5).setCell ⟨g, 6, none⟩ u6).setCell ⟨g, 7, none⟩ u7) := ((((((((h.setCell hg _).setCell hg _).setCell hg _).setCell hg _).setCell hg _).setCell hg _).setCell hg _).setCell hg _)
theorem row8 {W : World} {g : Nat} {t : TypeId} {st : Sh.St} (h : W.heap[g]? = some (.cells (wcells (Sh.stL st)).toArray t (0, 0))) : W.cell? ⟨g, 0, none⟩ = some (.int .u32 (st.a.toNat : Int)) ∧ W.cell? ⟨g, 1, none⟩ = some (.int .u32 (st.b.toNat : Int)) ∧ W.cell? ⟨g, 2, none⟩ = some (.int .u32 (st.c.toNat : Int)) ∧ W.cell? ⟨g, 3, none⟩ = some (.int .u32 (st.d.toNat : Int)) ∧ W.cell? ⟨g, 4, none⟩ = some (.int .u32 (st.e.toNat : Int)) ∧ W.cell? ⟨g, 5, none⟩ = some (.int .u32 (st.f.toNat : Int)) ∧ W.cell? ⟨g, 6, none⟩ = some (.int .u32 (st.g.toNat : Int)) ∧ W.cell? ⟨g, 7, none⟩ = some (.int .u32 (st.h.toNat : Int)) ∧ W.frozen? ⟨g, 0, none⟩ = false ∧ W.frozen? ⟨g, 1, none⟩ = false ∧ W.frozen? ⟨g, 2, none⟩ = false ∧ W.frozen? ⟨g, 3, none⟩ = false ∧ W.frozen? ⟨g, 4, none⟩ = false ∧ W.frozen? ⟨g, 5, none⟩ = false ∧ W.frozen? ⟨g, 6, none⟩ = false ∧ W.frozen? ⟨g, 7, none⟩ = false :=
  ⟨cell_of_row W g 0 _ _ (0, 0) h, cell_of_row W g 1 _ _ (0, 0) h, cell_of_row W g 2 _ _ (0, 0) h, cell_of_row W g 3 _ _ (0, 0) h, cell_of_row W g 4 _ _ (0, 0) h, cell_of_row W g 5 _ _ (0, 0) h, cell_of_row W g 6 _ _ (0, 0) h, cell_of_row W g 7 _ _ (0, 0) h, frozen_of_row W g 0 _ _ h, frozen_of_row W g 1 _ _ h, frozen_of_row W g 2 _ _ h, frozen_of_row W g 3 _ _ h, frozen_of_row W g 4 _ _ h, frozen_of_row W g 5 _ _ h, frozen_of_row W g 6 _ _ h, frozen_of_row W g 7 _ _ h⟩
set_option maxRecDepth 100000 in
set_option maxHeartbeats 4000000 in
theorem sharun (STEP : StepOk) (s : Sh.St) (b : List UInt8) (A : Option Addr) (c : Nat) (w : World) (hA : BytesAt w A b) (hc : b.length ≤ c) (hm : c ≤ 9223372036854775807) :
    Calls Try.prog 91 #[.agg (wcells (Sh.stL s)).toArray, .slice A b.length c] w fun e w' => e = .returned (.agg (wcells (Sh.stL (setZ s b (b.length / 64)))).toArray) ∧ Below w.heap.size w w' := by
  have HA := Lib.hid hA
  have HSTEP := Lib.hid STEP
  clear hA STEP
  have HS : Hid ((wcells (Sh.stL s)).toArray = #[.int .u32 (s.a.toNat : Int), .int .u32 (s.b.toNat : Int), .int .u32 (s.c.toNat : Int), .int .u32 (s.d.toNat : Int), .int .u32 (s.e.toNat : Int), .int .u32 (s.f.toNat : Int), .int .u32 (s.g.toNat : Int), .int .u32 (s.h.toNat : Int)]) := rfl
  rw [HS.out]
  go_enter Try.func91, Try.ntmps91
  go_wp2_with fail
  rw [← HS.out]
  obtain ⟨W0, hW0⟩ : ∃ W0, W0 = (w.alloc (.cells (wcells (Sh.stL s)).toArray 117)).alloc (.cells #[.int .u32 0, .int .u32 0, .int .u32 0, .int .u32 0, .int .u32 0, .int .u32 0, .int .u32 0, .int .u32 0] 117) := ⟨_, rfl⟩
  have HB0 : Hid (W0.heap[w.heap.size]? = some (.cells (wcells (Sh.stL s)).toArray 117 (0, 0))) := by rw [hW0]; exact heap_alloc2_old _ _ _
  have HB1 : Hid (W0.heap[w.heap.size + 1]? = some (.cells #[.int .u32 0, .int .u32 0, .int .u32 0, .int .u32 0, .int .u32 0, .int .u32 0, .int .u32 0, .int .u32 0] 117 (0, 0))) := by rw [hW0]; exact heap_alloc2_new _ _ _
  have HZ0 : Hid (W0.heap.size = w.heap.size + 2) := by rw [hW0]; simp [RowKit.Hid]
  have HBW : Hid (Below w.heap.size w W0) := by rw [hW0]; exact ((Below.refl _ _).alloc (Nat.le_refl _) _).alloc (by simp) _
  rw [← hW0]
  clear hW0
  go_loopw [1] (fun v wr => ∃ (k c' : Nat) (A' : Option Addr), v = .slice A' (b.drop (64 * k)).length c' ∧ (b.drop (64 * k)).length ≤ c' ∧ c' ≤ 9223372036854775807 ∧ 64 * k ≤ b.length ∧ Hid (BytesAt w A' (b.drop (64 * k))) ∧ Hid (wr.heap[w.heap.size]? = some (.cells (wcells (Sh.stL (setZ s b k))).toArray 117 (0, 0))) ∧ Hid (wr.heap[w.heap.size + 1]? = some (.cells #[.int .u32 0, .int .u32 0, .int .u32 0, .int .u32 0, .int .u32 0, .int .u32 0, .int .u32 0, .int .u32 0] 117 (0, 0))) ∧ Hid (Below w.heap.size w wr)) (fun v _ => sliceLen2 v)
  case atStart => exact ⟨0, c, A, rfl, hc, hm, by omega, HA, HB0, HB1, HBW⟩
  case round =>
    obtain ⟨k, c', A', rfl, hc', hm', hkb, hA', h0, h1, hB⟩ := hrel
    have HK : Hid (∀ t, t = Sh.step (setZ s b k) ((b.drop (64 * k)).take 64) → t = setZ s b (k + 1)) := fun t h => h
    have HD : Hid ((b.drop (64 * k)).drop 64 = b.drop (64 * (k + 1))) := by unfold RowKit.Hid; rw [List.drop_drop]; congr 1
    have HLEN : Hid ((b.drop (64 * k)).length = b.length - 64 * k) := by unfold RowKit.Hid; rw [List.length_drop]
    generalize b.drop (64 * k) = r at *
    by_cases hlt : 64 ≤ r.length
    · obtain ⟨At, hbt, rt0⟩ := slice_to c' hA'.out 64 hlt hc'
      obtain ⟨Af, hbf, rf0⟩ := slice_from c' hA'.out 64 hlt hc'
      have rt : ∀ wx, (Instr.slice 31 (.slice A' r.length c') none (some (.int .i64 64)) none).run Try.prog wx = .ok (.slice At 64 c') wx := rt0
      have rf : ∀ wx, (Instr.slice 31 (.slice A' r.length c') (some (.int .i64 64)) none none).run Try.prog wx = .ok (.slice Af (r.length - 64) (c' - 64)) wx := rf0
      have HBF := Lib.hid hbf
      have HST := Lib.hid (fun W h => HSTEP.out.wide (setZ s b k) (r.take 64) At c' W (hbt.below h (Nat.le_refl _)) (by rw [List.length_take]; omega))
      generalize setZ s b k = st at *
      obtain ⟨v0, v1, v2, v3, v4, v5, v6, v7, _, _, _, _, _, _, _, _⟩ := row8 h0.out
      have hgl : w.heap.size < wr.heap.size := by have := (Array.getElem?_eq_some_iff.1 h1.out).1; omega
      have hg1l : w.heap.size + 1 < wr.heap.size := (Array.getElem?_eq_some_iff.1 h1.out).1
      clear hbt hbf rt0 rf0
      go_wp2_with fail
      have RF := Lib.hid rf
      clear rf
      go_region_with
        (first
          | (go_at_call 99; go_loud (refine (HST.out _ (below_drewN hB.out 1)).mono ?_; rintro e wa ⟨t, ht, rfl, hba⟩; have h0a := (hba.block _ hgl).trans h0.out; obtain ⟨x0, x1, x2, x3, x4, x5, x6, x7, z0, z1, z2, z3, z4, z5, z6, z7⟩ := row8 h0a; have H0a := Lib.hid h0a; have HBa := Lib.hid ((below_drewN hB.out 1).trans (hba.mono hB.out.size)); have H1a := Lib.hid ((hba.block _ hg1l).trans h1.out); clear hba h0a)))
      all_goals
        have HN0 := Lib.hid (fun u0 u1 u2 u3 u4 u5 u6 u7 => set8u (W := wa) H0a.out u0 u1 u2 u3 u4 u5 u6 u7)
        have HN1 := Lib.hid (fun u0 u1 u2 u3 u4 u5 u6 u7 => (set8u_far (W := wa) (g := w.heap.size) (show w.heap.size + 1 ≠ w.heap.size by omega) u0 u1 u2 u3 u4 u5 u6 u7).trans H1a.out)
        have HNB := Lib.hid (fun u0 u1 u2 u3 u4 u5 u6 u7 => set8u_below HBa.out (Nat.le_refl w.heap.size) u0 u1 u2 u3 u4 u5 u6 u7)
        have rf := RF.out
        clear v0 v1 v2 v3 v4 v5 v6 v7 x0 x1 x2 x3 x4 x5 x6 x7 z0 z1 z2 z3 z4 z5 z6 z7
        go_wp2_with fail
        go_roundw
        case rel =>
          refine ⟨k + 1, c' - 64, Af, by rw [← HD.out, List.length_drop], by rw [← HD.out, List.length_drop]; omega, by omega, by have := HLEN.out; omega, ?_, ?_, HN1.out _ _ _ _ _ _ _ _, HNB.out _ _ _ _ _ _ _ _⟩
          · unfold RowKit.Hid; rw [← HD.out]; exact HBF.out
          · unfold RowKit.Hid; rw [← HK.out _ rfl]; exact HN0.out _ _ _ _ _ _ _ _
        case measure => simp [sliceLen2]; omega
    · have hk : k = b.length / 64 := by have := HLEN.out; omega
      subst hk
      have hi : (Try.prog.info? 117).map (·.size) = some 8 := by kernel_rfl
      have HI := Lib.hid hi
      have HS8 : Hid ((wcells (Sh.stL (setZ s b (b.length / 64)))).toArray.size = 8) := by unfold RowKit.Hid; rw [List.size_toArray, wcells_length]; rfl
      clear hi
      generalize hfin : setZ s b (b.length / 64) = fin at *
      have HFIN := Lib.hid hfin
      clear hfin
      go_wp2_with (first
        | refine wpList_load_row rfl 117 (.tmp 2) rfl w.heap.size rfl _ _ _ (.array 8 22) h0.out (by kernel_rfl) rfl (by rw [HI.out, HS8.out]) ?_
        | refine wpList_store_row rfl 117 (.tmp 4) (.tmp 17) rfl (w.heap.size + 1) (wcells (Sh.stL fin)).toArray rfl rfl _ _ h1.out (by rw [HI.out, HS8.out]) rfl (wcells_one _) ?_)
      refine bodyPost_ret (v := .agg (wcells (Sh.stL fin)).toArray) (results_cell_row (P := Try.prog) (d := .array 8 22) rfl _ _ (w.heap.size + 1) _ _ _ rfl (setRow_heap _ _ _ _ _ _ h1.out) (by kernel_rfl) rfl (by rw [HI.out, HS8.out])) rfl ⟨by rw [HFIN.out], below_setRow hB.out (by omega)⟩
end Go.Proofs.Ytjhopgmionpkoaa
namespace Go.Proofs.Ytjhopgmionpkoaa
set_option maxRecDepth 20000
open Go.RowKit Mem

theorem wpAny_ops {P : Program} {md : Region.Mode} {ops ops' : Array Oper} {Q : Exit → Act → World → Prop} {f : Nat} {L : Array Bool} {a : Act} {w : World} (h : ops' = ops) (h2 : wpAny P md ops' Q f L a w) : wpAny P md ops Q f L a w := h ▸ h2
theorem Fx.form {a0 a : Act} (h : Fx a0 a) : a = ((((((a0.put (some 6) (a.eval (.tmp 6))).put (some 7) (a.eval (.tmp 7))).put (some 8) (a.eval (.tmp 8))).put (some 17) (a.eval (.tmp 17))).put (some 18) (a.eval (.tmp 18))).put (some 19) (a.eval (.tmp 19))).put (some 20) (a.eval (.tmp 20)) := by
  obtain ⟨h1, h2, h3⟩ := h
  cases a with
  | mk T D =>
    cases a0 with
    | mk T0 D0 =>
      simp only at h1 h2 h3
      subst h2
      have hp : ∀ (t : Array Value) (j : Nat) (v : Value), (Act.mk t D).put (some j) v = Act.mk (t.setIfInBounds j v) D := fun _ _ _ => rfl
      have he : ∀ j, (Act.mk T D).eval (.tmp j) = T.getD j undef := fun _ => rfl
      simp only [he]
      rw [hp, hp, hp, hp, hp, hp, hp]
      refine congrArg (fun t => Act.mk t D) ?_
      apply Array.ext_getElem?
      intro j
      simp only [Array.getElem?_setIfInBounds, Array.size_setIfInBounds, ← h1]
      by_cases hl : j < T.size
      · by_cases hj : own_ j = true
        · have hc : j = 6 ∨ j = 7 ∨ j = 8 ∨ j = 17 ∨ j = 18 ∨ j = 19 ∨ j = 20 := by
            simp only [own_, Bool.or_eq_true, beq_iff_eq] at hj
            omega
          rcases hc with rfl | rfl | rfl | rfl | rfl | rfl | rfl <;> simp [hl]
        · have hj' : own_ j = false := by simpa using hj
          rw [h3 j hj']
          simp only [own_, Bool.or_eq_false_iff, beq_eq_false_iff_ne] at hj'
          rw [if_neg (by omega), if_neg (by omega), if_neg (by omega), if_neg (by omega), if_neg (by omega), if_neg (by omega), if_neg (by omega)]
      · have hz : T[j]? = none := Array.getElem?_eq_none (by omega)
        have hz0 : T0[j]? = none := Array.getElem?_eq_none (by omega)
        rw [hz, hz0]
        repeat' split
        all_goals first | rfl | omega
theorem u_not (x : UInt32) : bits .xor .u32 IntKind.u32.max (x.toNat : Int) = ((4294967295 - x).toNat : Int) := by
  have h : (4294967295 : UInt32) - x = ~~~x := by
    apply UInt32.toBitVec_inj.1
    simp only [UInt32.toBitVec_sub, UInt32.toBitVec_not]
    show (BitVec.allOnes 32) - x.toBitVec = ~~~x.toBitVec
    rw [BitVec.allOnes_sub_eq_not]
  have e : (IntKind.u32.max : Int) = (((4294967295 : UInt32).toNat : Nat) : Int) := by decide
  rw [e, u_xor, h]
  congr 2
theorem e_t1 (st : Sh.St) (kw ww : UInt32) : ((st.h.toNat : Int) + bits .xor .u32 (bits .xor .u32 ((Sh.ror 6 st.e).toNat : Int) ((Sh.ror 11 st.e).toNat : Int)) ((Sh.ror 25 st.e).toNat : Int) +
    bits .xor .u32 (bits .and .u32 (st.e.toNat : Int) (st.f.toNat : Int)) (bits .and .u32 (bits .xor .u32 IntKind.u32.max (st.e.toNat : Int)) (st.g.toNat : Int)) + (kw.toNat : Int) + (ww.toNat : Int)) % 4294967296 = ((Sh.t1 st kw ww).toNat : Int) := by
  unfold Sh.t1
  simp only [u_not, u_xor, u_and, UInt32.toNat_add]
  omega
theorem e_t2 (st : Sh.St) : (bits .xor .u32 (bits .xor .u32 ((Sh.ror 2 st.a).toNat : Int) ((Sh.ror 13 st.a).toNat : Int)) ((Sh.ror 22 st.a).toNat : Int) +
    bits .xor .u32 (bits .xor .u32 (bits .and .u32 (st.a.toNat : Int) (st.b.toNat : Int)) (bits .and .u32 (st.a.toNat : Int) (st.c.toNat : Int))) (bits .and .u32 (st.b.toNat : Int) (st.c.toNat : Int))) % 4294967296 = ((Sh.t2 st).toNat : Int) := by
  unfold Sh.t2
  simp only [u_xor, u_and, UInt32.toNat_add]
  omega
theorem quiet_add_same5 {P : Program} {f : FuncId} {args : Array Value} {w : World} {a n : Nat} {v : Value}
    (h : Calls P f args (w.drewN (a + n)) fun e w' => e = .returned v ∧ w' = w.drewN (a + n)) :
    Calls P f args (w.drewN (a + n)) fun e w'' => e = .returned v ∧ ∃ m, w'' = w.drewN (a + m) :=
  h.mono fun _ _ ⟨he, hm⟩ => ⟨he, n, hm⟩
theorem e_t2w (st : Sh.St) : IntKind.u32.wrap (bits .xor .u32 (bits .xor .u32 ((Sh.ror 2 st.a).toNat : Int) ((Sh.ror 13 st.a).toNat : Int)) ((Sh.ror 22 st.a).toNat : Int) +
    bits .xor .u32 (bits .xor .u32 (bits .and .u32 (st.a.toNat : Int) (st.b.toNat : Int)) (bits .and .u32 (st.a.toNat : Int) (st.c.toNat : Int))) (bits .and .u32 (st.b.toNat : Int) (st.c.toNat : Int))) = ((Sh.t2 st).toNat : Int) := by
  rw [IntKind.wrap_u32']; exact e_t2 st
theorem set8 {W : World} {g : Nat} {t : TypeId} {c0 c1 c2 c3 c4 c5 c6 c7 : Value} (h : W.heap[g]? = some (.cells #[c0, c1, c2, c3, c4, c5, c6, c7] t (0, 0))) (n : Nat) (u0 u1 u2 u3 u4 u5 u6 u7 : Value) :
    (((((((((W.drewN n).setCell ⟨g, 7, none⟩ u7).setCell ⟨g, 6, none⟩ u6).setCell ⟨g, 5, none⟩ u5).setCell ⟨g, 4, none⟩ u4).setCell ⟨g, 3, none⟩ u3).setCell ⟨g, 2, none⟩ u2).setCell ⟨g, 1, none⟩ u1).setCell ⟨g, 0, none⟩ u0).heap[g]? = some (.cells #[u0, u1, u2, u3, u4, u5, u6, u7] t (0, 0)) := by
  have h7 := heap_setCell_same (W.drewN n) g 7 _ t u7 h
  have h6 := heap_setCell_same _ g 6 _ t u6 h7
  have h5 := heap_setCell_same _ g 5 _ t u5 h6
  have h4 := heap_setCell_same _ g 4 _ t u4 h5
  have h3 := heap_setCell_same _ g 3 _ t u3 h4
  have h2 := heap_setCell_same _ g 2 _ t u2 h3
  have h1 := heap_setCell_same _ g 1 _ t u1 h2
  have h0 := heap_setCell_same _ g 0 _ t u0 h1
  rw [h0]
  simp only [List.setIfInBounds_toArray, List.set_cons_zero, List.set_cons_succ]
theorem set8_far {W : World} {g j : Nat} (hj : j ≠ g) (n : Nat) (u0 u1 u2 u3 u4 u5 u6 u7 : Value) : (((((((((W.drewN n).setCell ⟨g, 7, none⟩ u7).setCell ⟨g, 6, none⟩ u6).setCell ⟨g, 5, none⟩ u5).setCell ⟨g, 4, none⟩ u4).setCell ⟨g, 3, none⟩ u3).setCell ⟨g, 2, none⟩ u2).setCell ⟨g, 1, none⟩ u1).setCell ⟨g, 0, none⟩ u0).heap[j]? = W.heap[j]? := by
  rw [heap_setCell_other _ _ _ _ hj, heap_setCell_other _ _ _ _ hj, heap_setCell_other _ _ _ _ hj, heap_setCell_other _ _ _ _ hj, heap_setCell_other _ _ _ _ hj, heap_setCell_other _ _ _ _ hj, heap_setCell_other _ _ _ _ hj, heap_setCell_other _ _ _ _ hj]
  rfl
theorem set8_below {B : Nat} {W0 W : World} {g : Nat} (h : Below B W0 W) (hg : B ≤ g) (n : Nat) (u0 u1 u2 u3 u4 u5 u6 u7 : Value) : Below B W0 (((((((((W.drewN n).setCell ⟨g, 7, none⟩ u7).setCell ⟨g, 6, none⟩ u6).setCell ⟨g, 5, none⟩ u5).setCell ⟨g, 4, none⟩ u4).setCell ⟨g, 3, none⟩ u3).setCell ⟨g, 2, none⟩ u2).setCell ⟨g, 1, none⟩ u1).setCell ⟨g, 0, none⟩ u0) :=
  ((((((((below_drewN h n).setCell hg _).setCell hg _).setCell hg _).setCell hg _).setCell hg _).setCell hg _).setCell hg _).setCell hg _
theorem type_ne {W : World} {g g' : Nat} {t t' : TypeId} {cs cs' : Array Value} (h : W.heap[g]? = some (.cells cs t (0, 0))) (h' : W.heap[g']? = some (.cells cs' t' (0, 0))) (hne : t ≠ t') : g ≠ g' := by
  rintro rfl
  rw [h] at h'
  injection h' with h'
  injection h' with _ ht
  exact hne ht
def addTo (ss vs : List UInt32) (k : Nat) : List UInt32 := List.zipWith (· + ·) (vs.take k) (ss.take k) ++ vs.drop k
theorem addTo_len (s v : Sh.St) (k : Nat) (hk : k ≤ 8) : (addTo (Sh.stL s) (Sh.stL v) k).length = 8 := by
  rcases (show k = 0 ∨ k = 1 ∨ k = 2 ∨ k = 3 ∨ k = 4 ∨ k = 5 ∨ k = 6 ∨ k = 7 ∨ k = 8 by omega) with rfl | rfl | rfl | rfl | rfl | rfl | rfl | rfl | rfl <;> rfl
theorem addTo_step (s v : Sh.St) (k : Nat) (hk : k < 8) : ∃ x y : UInt32, (addTo (Sh.stL s) (Sh.stL v) k)[k]? = some x ∧ (Sh.stL s)[k]? = some y ∧ (addTo (Sh.stL s) (Sh.stL v) k).set k (x + y) = addTo (Sh.stL s) (Sh.stL v) (k + 1) := by
  rcases (show k = 0 ∨ k = 1 ∨ k = 2 ∨ k = 3 ∨ k = 4 ∨ k = 5 ∨ k = 6 ∨ k = 7 by omega) with rfl | rfl | rfl | rfl | rfl | rfl | rfl | rfl <;> exact ⟨_, _, rfl, rfl, rfl⟩
theorem wcells_get {l : List UInt32} {k : Nat} {x : UInt32} (h : l[k]? = some x) : (wcells l).toArray[k]? = some (.int .u32 (x.toNat : Int)) := by
  rw [List.getElem?_toArray]
  unfold wcells
  rw [List.getElem?_map, h]
  rfl
theorem wcells_set (l : List UInt32) (k : Nat) (x : UInt32) : (wcells l).toArray.setIfInBounds k (.int .u32 (x.toNat : Int)) = (wcells (l.set k x)).toArray := by
  rw [List.setIfInBounds_toArray]
  unfold wcells
  rw [List.map_set]
theorem stL_len (s : Sh.St) : (Sh.stL s).length = 8 := rfl
def Mid (W0 : World) (V18 V19 V20 : Array Value) (s6 s7 s8 : Value) (wx : World) : Prop :=
  ∃ g6 g7 g8 : Nat, s6 = .pointer (some ⟨g6, 0, none⟩) ∧ s7 = .pointer (some ⟨g7, 0, none⟩) ∧ s8 = .pointer (some ⟨g8, 0, none⟩) ∧ W0.heap.size ≤ g6 ∧ W0.heap.size ≤ g7 ∧ W0.heap.size ≤ g8 ∧
    wx.heap[g6]? = some (.cells V18 127 (0, 0)) ∧ wx.heap[g7]? = some (.cells V19 127 (0, 0)) ∧ wx.heap[g8]? = some (.cells V20 117 (0, 0)) ∧ Below W0.heap.size W0 wx
theorem drewN_twice (w : World) (m n : Nat) : (w.drewN m).drewN n = w.drewN (m + n) := by
  unfold World.drewN
  simp [Nat.add_assoc]
set_option maxRecDepth 100000 in
set_option maxHeartbeats 40000000 in
theorem shastep_aux (s fin : Sh.St) (b : List UInt8) (A : Option Addr) (c : Nat) (w : World) (hA : BytesAt w A b) (hl : b.length = 64) (HFIN : Hid (Sh.step s b = fin)) :
    Calls Try.prog 99 #[.agg (wcells (Sh.stL s)).toArray, .slice A 64 c] w fun e w' => e = .returned (.tuple #[.agg (wcells (Sh.stL fin)).toArray, .int .i64 0]) ∧ Below w.heap.size w w' := by
  have HA := Lib.hid hA
  have HL := Lib.hid hl
  clear hA hl
  have HS : Hid ((wcells (Sh.stL s)).toArray = #[.int .u32 (s.a.toNat : Int), .int .u32 (s.b.toNat : Int), .int .u32 (s.c.toNat : Int), .int .u32 (s.d.toNat : Int), .int .u32 (s.e.toNat : Int), .int .u32 (s.f.toNat : Int), .int .u32 (s.g.toNat : Int), .int .u32 (s.h.toNat : Int)]) := rfl
  rw [HS.out]
  go_enter Try.func99, Try.ntmps99
  go_upto_region 3 with fail
  rw [← HS.out]
  obtain ⟨W0, hW0⟩ : ∃ W0, W0 = (w.alloc (.cells (wcells (Sh.stL s)).toArray 117)).alloc (.cells #[.int .u32 0, .int .u32 0, .int .u32 0, .int .u32 0, .int .u32 0, .int .u32 0, .int .u32 0, .int .u32 0] 117) := ⟨_, rfl⟩
  have HB0 : Hid (W0.heap[w.heap.size]? = some (.cells (wcells (Sh.stL s)).toArray 117 (0, 0))) := by rw [hW0]; exact heap_alloc2_old _ _ _
  have HB1 : Hid (W0.heap[w.heap.size + 1]? = some (.cells #[.int .u32 0, .int .u32 0, .int .u32 0, .int .u32 0, .int .u32 0, .int .u32 0, .int .u32 0, .int .u32 0] 117 (0, 0))) := by rw [hW0]; exact heap_alloc2_new _ _ _
  have HZ0 : Hid (W0.heap.size = w.heap.size + 2) := by rw [hW0]; simp [RowKit.Hid]
  have HBW : Hid (Below w.heap.size w W0) := by rw [hW0]; exact ((Below.refl _ _).alloc (Nat.le_refl _) _).alloc (by simp) _
  rw [← hW0]
  clear hW0
  go_cut [6, 7, 8] (fun s6 s7 s8 wx => Mid W0 (wcells (Sh.sched b 64)).toArray (wcells Sh.ks).toArray (wcells (Sh.stL s)).toArray s6 s7 s8 wx)
  case first =>
    as_aux_lemma =>
      refine wp_region_any (by kernel_rfl) ?_
      refine wpAny_ops (ops' := stepOps) (by kernel_rfl) ?_
      refine stepRegion b (wcells (Sh.stL s)).toArray A c w.heap.size _ W0 (by simp) rfl rfl HB0.out rfl (wcells_one _) (HA.out.below HBW.out (Nat.le_refl _)) HL.out ?_
      intro g6 g7 g8 a wx h
      rw [h.fx.form, (h.f6 rfl).1, (h.f7 rfl).1, (h.f8 rfl).1, h.f17 rfl, h.f18 rfl, h.f19 rfl, h.f20 rfl]
      simp only [Act.put, List.setIfInBounds_toArray, List.set_cons_zero, List.set_cons_succ]
      obtain ⟨_, q6, Z6, z6, _, y6⟩ := h.f6 rfl
      obtain ⟨_, q7, Z7, z7, _, y7⟩ := h.f7 rfl
      obtain ⟨_, q8, Z8, z8, _, y8⟩ := h.f8 rfl
      obtain rfl := y6 rfl
      obtain rfl := y7 rfl
      obtain rfl := y8 rfl
      have hm : Mid W0 (wcells (Sh.sched b 64)).toArray (wcells Sh.ks).toArray (wcells (Sh.stL s)).toArray (.pointer (some ⟨g6, 0, none⟩)) (.pointer (some ⟨g7, 0, none⟩)) (.pointer (some ⟨g8, 0, none⟩)) wx :=
        ⟨g6, g7, g8, rfl, rfl, rfl, q6, q7, q8, z6, z7, z8, h.below⟩
      clear h z6 z7 z8 y6 y7 y8 q6 q7 q8
      go_wp2_with fail
      go_meet
      exact hm
  case rest =>
    obtain ⟨g6, g7, g8, rfl, rfl, rfl, q6, q7, q8, z6, z7, z8, hb⟩ := hcut
    have H6 := Lib.hid z6
    have H7 := Lib.hid z7
    have H8 := Lib.hid z8
    have HB := Lib.hid hb
    clear z6 z7 z8 hb
    go_wp2_with fail
    have HR0 : Hid (∀ k, Sh.rnds b (k + 1) s = Sh.rnd (Sh.rnds b k s) (Sh.ks.getD k 0) ((Sh.sched b 64).getD k 0)) := fun k => rfl
    have HL6 : Hid ((Sh.sched b 64).length = 64) := Sh.sched_length b 64
    have HL7 : Hid (Sh.ks.length = 64) := Sh.ks_length
    generalize Sh.sched b 64 = ws at *
    generalize Sh.ks = kl at *
    have HSt : Hid (Sh.rnds b 0 s = s) := rfl
    generalize hrr : (fun k => Sh.rnds b k s) = rr at *
    have hr0 : ∀ k, Sh.rnds b k s = rr k := fun k => by rw [← hrr]
    rw [hr0] at HSt
    simp only [hr0] at HR0
    have HRR := Lib.hid hr0
    clear hrr hr0
    have H8' := H8
    rw [← HSt.out] at H8'
    go_loopw [21] (fun i wr => ∃ k : Nat, k ≤ 64 ∧ i = .int .i64 k ∧ Hid (wr.heap[g6]? = some (.cells (wcells ws).toArray 127 (0, 0))) ∧ Hid (wr.heap[g7]? = some (.cells (wcells kl).toArray 127 (0, 0))) ∧ Hid (wr.heap[g8]? = some (.cells (wcells (Sh.stL (rr k))).toArray 117 (0, 0))) ∧ Hid (Below W0.heap.size W0 wr)) (fun i _ => 64 - (intOf i).toNat)
    case atStart => exact ⟨0, by omega, rfl, H6, H7, H8', HB⟩
    case round =>
      obtain ⟨k, hk, rfl, h6, h7, h8, hB⟩ := hrel
      by_cases hlt : k < 64
      · as_aux_lemma =>
          have hk6 : k < ws.length := by rw [HL6.out]; exact hlt
          have hk7 : k < kl.length := by rw [HL7.out]; exact hlt
          have cw : wr.cell? ⟨g6, k, none⟩ = some (.int .u32 (((ws[k]'hk6).toNat : Nat) : Int)) := by
            rw [cell_of_row wr g6 k _ _ (0, 0) h6.out, List.getElem?_toArray]; exact wcells_at _ k hk6
          have ck : wr.cell? ⟨g7, k, none⟩ = some (.int .u32 (((kl[k]'hk7).toNat : Nat) : Int)) := by
            rw [cell_of_row wr g7 k _ _ (0, 0) h7.out, List.getElem?_toArray]; exact wcells_at _ k hk7
          have HR : Hid (rr (k + 1) = Sh.rnd (rr k) (kl[k]'hk7) (ws[k]'hk6)) := by
            have := HR0.out k
            rw [List.getD_eq_getElem?_getD, List.getD_eq_getElem?_getD, List.getElem?_eq_getElem hk6, List.getElem?_eq_getElem hk7] at this
            exact this
          generalize ws[k]'hk6 = ww at *
          generalize kl[k]'hk7 = kw at *
          generalize hst : rr k = st at *
          have v0 : wr.cell? ⟨g8, 0, none⟩ = some (.int .u32 (st.a.toNat : Int)) := cell_of_row wr g8 0 _ _ (0, 0) h8.out
          have v1 : wr.cell? ⟨g8, 1, none⟩ = some (.int .u32 (st.b.toNat : Int)) := cell_of_row wr g8 1 _ _ (0, 0) h8.out
          have v2 : wr.cell? ⟨g8, 2, none⟩ = some (.int .u32 (st.c.toNat : Int)) := cell_of_row wr g8 2 _ _ (0, 0) h8.out
          have v3 : wr.cell? ⟨g8, 3, none⟩ = some (.int .u32 (st.d.toNat : Int)) := cell_of_row wr g8 3 _ _ (0, 0) h8.out
          have v4 : wr.cell? ⟨g8, 4, none⟩ = some (.int .u32 (st.e.toNat : Int)) := cell_of_row wr g8 4 _ _ (0, 0) h8.out
          have v5 : wr.cell? ⟨g8, 5, none⟩ = some (.int .u32 (st.f.toNat : Int)) := cell_of_row wr g8 5 _ _ (0, 0) h8.out
          have v6 : wr.cell? ⟨g8, 6, none⟩ = some (.int .u32 (st.g.toNat : Int)) := cell_of_row wr g8 6 _ _ (0, 0) h8.out
          have v7 : wr.cell? ⟨g8, 7, none⟩ = some (.int .u32 (st.h.toNat : Int)) := cell_of_row wr g8 7 _ _ (0, 0) h8.out
          have z0 : wr.frozen? ⟨g8, 0, none⟩ = false := frozen_of_row wr g8 0 _ _ h8.out
          have z1 : wr.frozen? ⟨g8, 1, none⟩ = false := frozen_of_row wr g8 1 _ _ h8.out
          have z2 : wr.frozen? ⟨g8, 2, none⟩ = false := frozen_of_row wr g8 2 _ _ h8.out
          have z3 : wr.frozen? ⟨g8, 3, none⟩ = false := frozen_of_row wr g8 3 _ _ h8.out
          have z4 : wr.frozen? ⟨g8, 4, none⟩ = false := frozen_of_row wr g8 4 _ _ h8.out
          have z5 : wr.frozen? ⟨g8, 5, none⟩ = false := frozen_of_row wr g8 5 _ _ h8.out
          have z6 : wr.frozen? ⟨g8, 6, none⟩ = false := frozen_of_row wr g8 6 _ _ h8.out
          have z7 : wr.frozen? ⟨g8, 7, none⟩ = false := frozen_of_row wr g8 7 _ _ h8.out
          have r0 : (0 : Int) ≤ k := by omega
          have r1 : (k : Int) < 64 := by omega
          clear hk6 hk7 hst
          go_wp2_with fail
          go_quiet ((go_at_call 106; exact Calls.quiet_of_same (same_right5 (sharight _ _ (by decide) _))))
          go_wp2_with fail
          rw [e_t1]
          generalize hT1 : Sh.t1 st kw ww = T1 at *
          have HT1 := Lib.hid hT1
          clear hT1
          go_cut [11] from 22 to 114 (fun s11 wx => s11 = .int .u32 ((Sh.t2 st).toNat : Int) ∧ ∃ n, wx = wr.drewN n)
          case first =>
            go_quiet ((go_at_call 106; exact quiet_add_same5 (same_right5 (sharight _ _ (by decide) _))))
            first | rw [e_t2] | rw [e_t2w]
            go_wp2_with fail
            go_meet
            exact ⟨rfl, _, drewN_twice _ _ _⟩
          case rest =>
            obtain ⟨rfl, n, rfl⟩ := hcut
            generalize hT2 : Sh.t2 st = T2 at *
            have HT2 := Lib.hid hT2
            clear hT2
            obtain ⟨wq, hwq⟩ : ∃ wq, wq = wr.drewN n := ⟨_, rfl⟩
            rw [← hwq]
            have R0 : Hid (wq.heap[g8]? = some (.cells #[.int .u32 (st.a.toNat : Int), .int .u32 (st.b.toNat : Int), .int .u32 (st.c.toNat : Int), .int .u32 (st.d.toNat : Int), .int .u32 (st.e.toNat : Int), .int .u32 (st.f.toNat : Int), .int .u32 (st.g.toNat : Int), .int .u32 (st.h.toNat : Int)] 117 (0, 0))) := by rw [hwq]; exact h8.out
            have V0 : wq.cell? ⟨g8, 0, none⟩ = some (.int .u32 (st.a.toNat : Int)) := by rw [hwq]; exact v0
            have V1 : wq.cell? ⟨g8, 1, none⟩ = some (.int .u32 (st.b.toNat : Int)) := by rw [hwq]; exact v1
            have V2 : wq.cell? ⟨g8, 2, none⟩ = some (.int .u32 (st.c.toNat : Int)) := by rw [hwq]; exact v2
            have V3 : wq.cell? ⟨g8, 3, none⟩ = some (.int .u32 (st.d.toNat : Int)) := by rw [hwq]; exact v3
            have V4 : wq.cell? ⟨g8, 4, none⟩ = some (.int .u32 (st.e.toNat : Int)) := by rw [hwq]; exact v4
            have V5 : wq.cell? ⟨g8, 5, none⟩ = some (.int .u32 (st.f.toNat : Int)) := by rw [hwq]; exact v5
            have V6 : wq.cell? ⟨g8, 6, none⟩ = some (.int .u32 (st.g.toNat : Int)) := by rw [hwq]; exact v6
            have V7 : wq.cell? ⟨g8, 7, none⟩ = some (.int .u32 (st.h.toNat : Int)) := by rw [hwq]; exact v7
            have K6 : Hid (wq.heap[g6]? = some (.cells (wcells ws).toArray 127 (0, 0))) := by rw [hwq]; exact h6.out
            have K7 : Hid (wq.heap[g7]? = some (.cells (wcells kl).toArray 127 (0, 0))) := by rw [hwq]; exact h7.out
            have KB : Hid (Below W0.heap.size W0 wq) := by rw [hwq]; exact below_drewN hB.out n
            have hi1 : (Try.prog.info? 22).map (·.size) = some 1 := by kernel_rfl
            have HI1 := Lib.hid hi1
            have HN6 := Lib.hid (type_ne h6.out h8.out (by decide))
            have HN7 := Lib.hid (type_ne h7.out h8.out (by decide))
            clear hi1 hwq v0 v1 v2 v3 v4 v5 v6 v7 z0 z1 z2 z3 z4 z5 z6 z7 cw ck h6 h7 h8 hB
            go_wp2_with (first
              | (refine wpList_store1 rfl 22 (.tmp 107) (.tmp 89) rfl g8 7 .u32 _ rfl rfl R0.out (by simp) HI1.out ?_; intro y1 r1 m1; have R1 := Lib.hid r1; have M1 := Lib.hid m1; clear r1 m1)
              | (refine wpList_store1 rfl 22 (.tmp 108) (.tmp 91) rfl g8 6 .u32 _ rfl rfl R1.out (by simp) HI1.out ?_; intro y2 r2 m2; have R2 := Lib.hid r2; have M2 := Lib.hid m2; clear r2 m2)
              | (refine wpList_store1 rfl 22 (.tmp 109) (.tmp 93) rfl g8 5 .u32 _ rfl rfl R2.out (by simp) HI1.out ?_; intro y3 r3 m3; have R3 := Lib.hid r3; have M3 := Lib.hid m3; clear r3 m3)
              | (refine wpList_store1 rfl 22 (.tmp 110) (.tmp 97) rfl g8 4 .u32 _ rfl rfl R3.out (by simp) HI1.out ?_; intro y4 r4 m4; have R4 := Lib.hid r4; have M4 := Lib.hid m4; clear r4 m4)
              | (refine wpList_store1 rfl 22 (.tmp 111) (.tmp 99) rfl g8 3 .u32 _ rfl rfl R4.out (by simp) HI1.out ?_; intro y5 r5 m5; have R5 := Lib.hid r5; have M5 := Lib.hid m5; clear r5 m5)
              | (refine wpList_store1 rfl 22 (.tmp 112) (.tmp 101) rfl g8 2 .u32 _ rfl rfl R5.out (by simp) HI1.out ?_; intro y6 r6 m6; have R6 := Lib.hid r6; have M6 := Lib.hid m6; clear r6 m6)
              | (refine wpList_store1 rfl 22 (.tmp 113) (.tmp 103) rfl g8 1 .u32 _ rfl rfl R6.out (by simp) HI1.out ?_; intro y7 r7 m7; have R7 := Lib.hid r7; have M7 := Lib.hid m7; clear r7 m7)
              | (refine wpList_store1 rfl 22 (.tmp 114) (.tmp 106) rfl g8 0 .u32 _ rfl rfl R7.out (by simp) HI1.out ?_; intro y8 r8 m8; have R8 := Lib.hid r8; have M8 := Lib.hid m8; clear r8 m8))
            have r8 := R8.out
            simp only [List.setIfInBounds_toArray, List.set_cons_zero, List.set_cons_succ, u_add] at r8
            have E8 : Hid (y8.heap[g8]? = some (.cells (wcells (Sh.stL (rr (k + 1)))).toArray 117 (0, 0))) := by
              unfold RowKit.Hid
              rw [HR.out]
              unfold Sh.rnd
              rw [HT1.out, HT2.out]
              exact r8
            clear r8
            have b1 := below_by KB.out M1.out KB.out.size q8
            have b2 := below_by b1 M2.out b1.size q8
            have b3 := below_by b2 M3.out b2.size q8
            have b4 := below_by b3 M4.out b3.size q8
            have b5 := below_by b4 M5.out b4.size q8
            have b6 := below_by b5 M6.out b5.size q8
            have b7 := below_by b6 M7.out b6.size q8
            have b8 := Lib.hid (below_by b7 M8.out b7.size q8)
            have O6 := Lib.hid (other_by M8.out HN6.out (other_by M7.out HN6.out (other_by M6.out HN6.out (other_by M5.out HN6.out (other_by M4.out HN6.out (other_by M3.out HN6.out (other_by M2.out HN6.out (other_by M1.out HN6.out K6.out))))))))
            have O7 := Lib.hid (other_by M8.out HN7.out (other_by M7.out HN7.out (other_by M6.out HN7.out (other_by M5.out HN7.out (other_by M4.out HN7.out (other_by M3.out HN7.out (other_by M2.out HN7.out (other_by M1.out HN7.out K7.out))))))))
            clear b1 b2 b3 b4 b5 b6 b7
            go_roundw
            case rel => exact ⟨k + 1, by omega, by go_num, O6, O7, E8, b8⟩
            case measure => simp [intOf]; omega
      · obtain rfl : k = 64 := by omega
        rw [show ((64 : Nat) : Int) = 64 from rfl]
        have HP : Hid (fin = Sh.plus s (rr 64)) := by
          unfold RowKit.Hid
          rw [← HFIN.out]
          unfold Sh.step
          rw [HRR.out]
        clear HFIN HRR
        generalize rr 64 = vv at *
        clear h6 h7 HR0 HSt H8' H6 H7 H8 HB HL6 HL7
        have h8' : Hid (wr.heap[g8]? = some (.cells (wcells (addTo (Sh.stL s) (Sh.stL vv) 0)).toArray 117 (0, 0))) := h8
        go_wp2_with fail
        go_loopw [116] (fun i wq => ∃ k : Nat, k ≤ 8 ∧ i = .int .i64 k ∧ Hid (wq.heap[g8]? = some (.cells (wcells (addTo (Sh.stL s) (Sh.stL vv) k)).toArray 117 (0, 0))) ∧ Hid (Below W0.heap.size W0 wq)) (fun i _ => 8 - (intOf i).toNat)
        case atStart => exact ⟨0, by omega, rfl, h8', hB⟩
        case round =>
          obtain ⟨k, hk, rfl, hg, hB⟩ := hrel
          by_cases hlt : k < 8
          · as_aux_lemma =>
              obtain ⟨x, y, hx, hy, hxy⟩ := addTo_step s vv k hlt
              have c1 := (cell_of_row wr g8 k _ _ (0, 0) hg.out).trans (wcells_get hx)
              have f1 := frozen_of_row wr g8 k _ _ hg.out
              have c2 := (cell_of_row wr w.heap.size k _ _ (0, 0) ((hB.out.block _ (by have := HZ0.out; omega)).trans HB0.out)).trans (wcells_get hy)
              have HN : Hid (∀ n, ((wr.drewN n).setCell ⟨g8, k, none⟩ (.int .u32 ((x + y).toNat : Int))).heap[g8]? = some (.cells (wcells (addTo (Sh.stL s) (Sh.stL vv) (k + 1))).toArray 117 (0, 0))) := fun n => by
                have := heap_setCell_same (wr.drewN n) g8 k _ _ (.int .u32 ((x + y).toNat : Int)) hg.out
                rw [wcells_set, hxy] at this
                exact this
              have HNB : Hid (∀ n u, Below W0.heap.size W0 ((wr.drewN n).setCell ⟨g8, k, none⟩ u)) := fun n u => (below_drewN hB.out n).setCell q8 u
              have r0 : (0 : Int) ≤ k := by omega
              have r1 : (k : Int) < 8 := by omega
              clear hx hy hxy
              go_wp2_with fail
              go_still_tail 8, (by kernel_rfl)
              change wpList _ _ _ _ _ wr.drew
              go_wp2_with fail
              rw [u_add]
              have HN1 := Lib.hid (HN.out 1)
              have HB1 := Lib.hid (HNB.out 1 (.int .u32 ((x + y).toNat : Int)))
              go_roundw
              case rel => exact ⟨k + 1, by omega, by go_num, HN1, HB1⟩
              case measure => simp [intOf]; omega
          · as_aux_lemma =>
              obtain rfl : k = 8 := by omega
              have hlast : addTo (Sh.stL s) (Sh.stL vv) 8 = Sh.stL (Sh.plus s vv) := rfl
              rw [hlast, ← HP.out] at hg
              have HR1 := Lib.hid ((hB.out.block _ (by have := HZ0.out; omega)).trans HB1.out)
              have hi : (Try.prog.info? 117).map (·.size) = some 8 := by kernel_rfl
              have HI := Lib.hid hi
              have HS8 : Hid ((wcells (Sh.stL fin)).toArray.size = 8) := by unfold RowKit.Hid; rw [List.size_toArray, wcells_length, stL_len]
              clear hi hlast
              clear HP HB0 HS
              go_wp2_with (first
                | refine wpList_load_row rfl 117 (.tmp 8) rfl g8 rfl _ _ _ (.array 8 22) hg.out (by kernel_rfl) rfl (by rw [HI.out, HS8.out]) ?_
                | refine wpList_store_row rfl 117 (.tmp 4) (.tmp 128) rfl (w.heap.size + 1) (wcells (Sh.stL fin)).toArray rfl rfl _ _ HR1.out (by rw [HI.out, HS8.out]) rfl (wcells_one _) ?_)
              exact bodyPost_ret (v := .tuple #[.agg (wcells (Sh.stL fin)).toArray, .int .i64 0]) (results_row_tmp (P := Try.prog) (d := .array 8 22) rfl _ _ (w.heap.size + 1) _ _ _ _ rfl (setRow_heap _ _ _ _ _ _ HR1.out) (by kernel_rfl) rfl (by rw [HI.out, HS8.out]) rfl) rfl ⟨rfl, below_setRow (HBW.out.trans (hB.out.mono (by have := HZ0.out; omega))) (by omega)⟩
theorem shastep_ok : StepOk := fun s b A c w hA hl => shastep_aux s _ b A c w hA hl rfl
end Go.Proofs.Ytjhopgmionpkoaa
