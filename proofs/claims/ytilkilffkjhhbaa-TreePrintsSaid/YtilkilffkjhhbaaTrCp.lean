/-
  The reference's Copy: an expression in new memory.
-/
import Derived.Test.YtilkilffkjhhbaaTrCpR
import Derived.Test.YtilkilffkjhhbaaTrB
import Derived.Test.YtilkilffkjhhbaaTrSame
namespace Go.Proofs.Ytilkilffkjhhbaa
set_option maxRecDepth 20000
set_option linter.unusedVariables false
open Go.RowKit Tr Mem

theorem sizes_len : ∀ l : List Ex, l.length ≤ sizes l
  | [] => Nat.zero_le _
  | x :: r => by
    have h1 := sizes_len r
    have h2 := size_pos x
    rw [sizes_cons, List.length_cons]
    omega
theorem alloc3_ (w : World) (a b c : Array Value) (t u v : TypeId) : ∀ W, W = ((w.alloc (.cells a t)).alloc (.cells b u)).alloc (.cells c v) →
    W.heap[w.heap.size]? = some (.cells a t (0, 0)) ∧ W.heap[w.heap.size + 1]? = some (.cells b u (0, 0)) ∧ W.heap[w.heap.size + 1 + 1]? = some (.cells c v (0, 0)) ∧ Below w.heap.size w W ∧ w.heap.size + 1 + 1 < W.heap.size := by
  rintro W rfl
  obtain ⟨h0, h1, h2, h3⟩ := alloc2_ w a b t u _ rfl
  have h4 := heap_alloc_new ((w.alloc (.cells a t)).alloc (.cells b u)) (.cells c v)
  rw [h3] at h4
  exact ⟨row_alloc h0 _, row_alloc h1 _, h4, h2.alloc (by rw [h3]; omega) _, by simp⟩
/-- the copy is under way -/
structure CpS (w W : World) (rb ob : Nat) (k n : Int) (m : Lx.Bs) (s : List Ex) (A : Option Addr) (cap j : Nat) (V : Value) (xs : List Value) : Prop where
  below : Below w.heap.size w W
  lt : ob < W.heap.size
  erow : W.heap[w.heap.size]? = some (.cells #[.int .i64 k, .int .i32 n, .string ⟨m.toArray⟩, .slice A s.length cap] 43 (0, 0))
  rrow : W.heap[rb]? = some (.cells #[.int .i64 0, .int .i32 0, .string ⟨#[]⟩, .slice none 0 0] 43 (0, 0))
  xrow : W.heap[ob]? = some (.cells #[.int .i64 k, .int .i32 n, .string ⟨m.toArray⟩, V] 43 (0, 0))
  own : W.ownsRow (ob + 1) 43 4 V j xs
  inn : SubIn W (ownK ob V) (s.take j) xs
theorem CpS.next {w W W' : World} {rb ob : Nat} {k n : Int} {m : Lx.Bs} {s : List Ex} {A : Option Addr} {cap j : Nat} {V : Value} {xs : List Value} (h : CpS w W rb ob k n m s A cap j V xs) (h1 : w.heap.size < rb) (h2 : rb < ob) (hj : j < s.length)
    {vs : Nat → Value} (hc : CpC W ob j #[.int .i64 k, .int .i32 n, .string ⟨m.toArray⟩, V] V xs (s.take j) (s[j]'hj) (fun _ => true) vs W') : ∃ A' c' xs', vs 23 = .slice A' (j + 1) c' ∧ CpS w W' rb ob k n m s A cap (j + 1) (.slice A' (j + 1) c') xs' := by
  obtain ⟨b0, _, _, _, _, _, _, _, b8, b9⟩ := hc
  obtain ⟨A', c', ho, hsub⟩ := b8 rfl
  obtain ⟨A9, c9, e9⟩ := own_slice ho
  simp only [if_true] at b9
  rw [e9] at ho hsub b9
  have hlt := h.lt
  have hsz := b0.size
  refine ⟨A9, c9, _, e9, ⟨h.below.trans (b0.mono (by omega)), Nat.lt_of_lt_of_le hlt hsz, (b0.block _ (by omega)).trans h.erow, (b0.block _ (by omega)).trans h.rrow, b9, ho, ?_⟩⟩
  rw [List.take_succ_eq_append_getElem hj]; exact hsub
theorem CpS.fin {w W : World} {rb ob : Nat} {k n : Int} {m : Lx.Bs} {s : List Ex} {A A' : Option Addr} {cap c' : Nat} {xs : List Value} (h : CpS w W rb ob k n m s A cap s.length (.slice A' s.length c') xs) (h1 : w.heap.size < rb) (h2 : rb < ob) (x0 x1 x2 x3 : Value) :
    At ((((W.setCell ⟨rb, 0, none⟩ x0).setCell ⟨rb, 1, none⟩ x1).setCell ⟨rb, 2, none⟩ x2).setCell ⟨rb, 3, none⟩ x3) (fun b => w.heap.size ≤ b) (.mk k n m s) A' ∧ Below w.heap.size w ((((W.setCell ⟨rb, 0, none⟩ x0).setCell ⟨rb, 1, none⟩ x1).setCell ⟨rb, 2, none⟩ x2).setCell ⟨rb, 3, none⟩ x3) := by
  refine ⟨?_, below_set4 h.below (by omega) _ _ _ _⟩
  have hg4 := grown_set4 (bp := rb) (W := W) (g := rb) (.inr trivial) x0 x1 x2 x3
  have hlt := h.own.lt
  have hin := h.inn
  rw [List.take_length] at hin
  rw [at_eq]
  refine atL_own (h.own.kept hg4 (.inr fun e => by have := (hlt rb e).1; omega)) (hin.move (fun b hb hl => hg4.block b hl (fun e => by injection e with e; have := hb.1; omega)) (fun b hb _ => by have := hb.1; omega)) (fun b hb => by have := (hlt b hb).1; omega)
set_option maxRecDepth 100000 in
set_option maxHeartbeats 4000000 in
theorem copy_any (B : Nat → Prop) : ∀ (cc : Nat) (x : Ex), size x ≤ cc → cc ≤ 1000000 → ∀ (A : Option Addr) (cap : Nat) (w : World), At w B x A → Fit x →
    Calls Try.prog 45 #[exAgg x A cap] w fun e w' => ∃ A' c', e = .returned (exAgg x A' c') ∧ At w' (fun b => w.heap.size ≤ b) x A' ∧ Below w.heap.size w w' := by
  intro cc
  induction cc with
  | zero => intro x h; have := size_pos x; omega
  | succ cc ih =>
    intro x hc hlim A cap w hA hfit
    obtain ⟨k, n, m, s⟩ := x
    rw [at_eq] at hA
    rw [fit_eq] at hfit
    rw [size_eq] at hc
    have HA := Lib.hid hA
    have HF := Lib.hid hfit.2.2.2
    have IH := Lib.hid ih
    have hsl := sizes_len s
    have hs : s.length ≤ 1000000 := by omega
    clear hA hfit ih hsl
    unfold exAgg
    dsimp only [Ex.kind, Ex.n, Ex.name, Ex.sub]
    go_enter Try.func45, Try.ntmps45
    go_upto_region 3 with (fail)
    obtain ⟨W0, hW0⟩ : ∃ W0, W0 = ((w.alloc (.cells #[.int .i64 k, .int .i32 n, .string ⟨m.toArray⟩, .slice A s.length cap] 43)).alloc (.cells #[.int .i64 0, .int .i32 0, .string ⟨#[]⟩, .slice none 0 0] 43)).alloc (.cells #[.int .i64 k, .int .i32 n, .string ⟨m.toArray⟩, .slice none 0 0] 43) := ⟨_, rfl⟩
    rw [← hW0]
    obtain ⟨h0, h1, h2, h3, h4⟩ := alloc3_ _ _ _ _ _ _ _ _ hW0
    have hgr : w.heap.size < w.heap.size + 1 := Nat.lt_succ_self _
    have hgo : w.heap.size + 1 < w.heap.size + 1 + 1 := Nat.lt_succ_self _
    have HS0 : Hid (CpS w W0 (w.heap.size + 1) (w.heap.size + 1 + 1) k n m s A cap 0 (.slice none 0 0) []) := ⟨h3, h4, h0, h1, h2, World.ownsRow_nil _ _ _ _, rfl⟩
    generalize w.heap.size + 1 + 1 = ob at *
    generalize w.heap.size + 1 = rb at *
    clear hW0 h0 h1 h2 h3 h4
    go_wp2_with fail
    go_loopw [4] (fun i wr => ∃ (j : Nat) (V : Value) (xs : List Value), j ≤ s.length ∧ i = .int .i64 j ∧ Hid (CpS w wr rb ob k n m s A cap j V xs)) (fun i _ => s.length - (intOf i).toNat)
    case atStart => exact ⟨0, _, _, Nat.zero_le _, rfl, HS0⟩
    case round =>
      clear HS0
      obtain ⟨j, V, xs, hj, rfl, HS⟩ := hrel
      obtain ⟨k0, k1, k2, k3, -⟩ := row4 HS.out.erow
      clear k0 k1 k2
      by_cases hlt : j < s.length
      · obtain ⟨b, off, rfl, -, d0, d1, d2, A', c', d3, hx⟩ := HA.out.get j hlt
        have hbl := World.block_lt_of_cell? _ _ d0
        simp only at hbl
        have c0 := (HS.out.below.cell (p := ⟨b, off + j * 4, none⟩) hbl).trans d0
        have c1 := (HS.out.below.cell (p := ⟨b, off + j * 4 + 1, none⟩) hbl).trans d1
        have c2 := (HS.out.below.cell (p := ⟨b, off + j * 4 + 2, none⟩) hbl).trans d2
        have c3 := (HS.out.below.cell (p := ⟨b, off + j * 4 + 3, none⟩) hbl).trans d3
        clear d0 d1 d2 d3
        have hfy := FitL.mem HF.out (List.getElem_mem hlt)
        have hsz := size_mem (List.getElem_mem hlt)
        have HNX := Lib.hid (fun W' vs => CpS.next (W' := W') (vs := vs) HS.out hgr hgo hlt)
        have HCL : Hid (∀ W, Below ob wr W → Calls Try.prog 45 #[exAgg (s[j]'hlt) A' c'] W fun e W' => ∃ A c, e = .returned (exAgg (s[j]'hlt) A c) ∧ At W' (fun b => W.heap.size ≤ b) (s[j]'hlt) A ∧ Below W.heap.size W W') := fun W hW => by
          exact IH.out _ (by omega) (by omega) _ _ _ (hx.below (HS.out.below.trans (hW.mono (by omega))) (Nat.le_refl _)) hfy
        generalize s[j]'hlt = y at *
        have hob := HS.out.lt
        have hxr := HS.out.xrow
        have hxo := HS.out.own
        have hxi := HS.out.inn
        unfold exAgg at HCL
        go_upto_region 6 with (fail)
        refine wp_region_any (by kernel_rfl) ?_
        refine wpAny_ops (ops' := cpyOps) (by kernel_rfl) ?_
        refine cpyRegion _ _ (by simp) w.heap.size ob b off s.length cap j #[.int .i64 k, .int .i32 n, .string ⟨m.toArray⟩, V] V xs (s.take j) y A' c' hlt hs rfl rfl (by omega) (by omega) hob hxr hxo hxi k3 c0 c1 c2 c3 HCL.out rfl rfl rfl ?_
        intro vs wq hc
        obtain ⟨A9, c9, xs9, e9, hs9⟩ := HNX.out wq vs hc
        have HS9 := Lib.hid hs9
        generalize hv1 : vs 15 = u1 at *
        generalize hv2 : vs 21 = u2 at *
        generalize hv3 : vs 22 = u3 at *
        clear hc hs9 c0 c1 c2 c3 k3 hob hxr hxo hxi hv1 hv2 hv3 HNX HCL HS
        simp only [cpySlots, List.foldl_cons, List.foldl_nil]
        simp only [cpyVal]
        rw [e9]
        simp only [Act.put, List.setIfInBounds_toArray, List.set_cons_zero, List.set_cons_succ]
        go_wp2_with fail
        go_roundw
        case rel => exact ⟨j + 1, _, _, by omega, by go_num, HS9⟩
        case measure => simp [intOf]; omega
      · obtain rfl : j = s.length := by omega
        have hxo := HS.out.own
        obtain ⟨A9, c9, rfl⟩ := own_slice hxo
        obtain ⟨x0, x1, x2, x3, -⟩ := row4 HS.out.xrow
        obtain ⟨r0, r1, r2, r3, r4, r5, r6, r7⟩ := row4 HS.out.rrow
        clear hxo
        go_wp2_with fail
        exact ret_row 2 rfl rfl rfl (setrow4 HS.out.rrow _ _ _ _) Try.underlying43 infoExS ⟨A9, c9, rfl, HS.out.fin hgr hgo _ _ _ _⟩
end Go.Proofs.Ytilkilffkjhhbaa
