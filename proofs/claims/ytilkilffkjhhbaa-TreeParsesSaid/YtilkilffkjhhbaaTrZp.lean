/-
  The reference's row of tokens: is, take, need, kind.
  The reference's row of tokens: kind.
  The reference's level and among: the operations of a level; the one that stands next.
-/
import Derived.Test.YtilkilffkjhhbaaTrPa
import Derived.BigQuiet
import Derived.Deep.QuietTactic
import Derived.BigRegion
import Derived.Test.YtilkilffkjhhbaaTrF
namespace Go.Proofs.Ytilkilffkjhhbaa
set_option maxRecDepth 20000
set_option linter.unusedVariables false
open Go.RowKit Tr Mem

theorem halt_at {p : Prop} (h : Hid p) : p := h
set_option maxHeartbeats 8000000 in
theorem ris_any (bp : Nat) (A : Option Addr) (c : Nat) (ts : List Lx.Tok) (s : St) (m : Lx.Bs) (w : World) (h : RowAt w bp 66 A c ts s) :
    Calls Try.prog 40 #[.pointer (some ⟨bp, 0, none⟩), .string ⟨m.toArray⟩] w fun e w' => e = .returned (.bool (sees ts s m)) ∧ Below w.heap.size w w' := by
  rw [sees_cur]
  obtain ⟨c0, c1, c2, -⟩ := h.cells
  have hlen := h.len
  have hle := h.le
  rcases hb : s.bad with _ | _
  rotate_left
  · rw [has_no (.inl hb)]
    rw [hb] at c2
    clear h hb
    go_enter Try.func40, Try.ntmps40
    go_wp2_with fail
    go_quiet (fail)
    go_wp2_with fail
    go_ret
    exact ⟨rfl, below_drewN (Below.refl _ _) _⟩
  rw [hb] at c2
  by_cases hlt : s.at_ < ts.length
  rotate_left
  · rw [has_no (.inr (by omega))]
    have hd : decide ((s.at_ : Int) < (ts.length : Int)) = false := decide_eq_false (by omega)
    clear h hb
    go_enter Try.func40, Try.ntmps40
    go_wp2_with fail
    go_quiet (fail)
    go_wp2_with fail
    go_ret
    exact ⟨rfl, below_drewN (Below.refl _ _) _⟩
  · rw [has_yes hb hlt, cur_yes hb hlt]
    obtain ⟨b, off, rfl, t0, t1, t2, t3⟩ := h.toks s.at_ hlt
    have hd : decide ((s.at_ : Int) < (ts.length : Int)) = true := decide_eq_true (by omega)
    have hr0 : (0 : Int) ≤ s.at_ := by omega
    have hr1 : (s.at_ : Int) < (ts.length : Int) := by omega
    clear h hb
    generalize ts[s.at_]'hlt = t at *
    obtain ⟨k, tx, n, pl⟩ := t
    dsimp only at *
    rcases h3 : (k == 3) with _ | _
    · rcases h4 : (k == 4) with _ | _
      · clear t1 t2 t3
        go_enter Try.func40, Try.ntmps40
        go_wp2_with fail
        go_quiet (fail)
        go_wp2_with fail
        go_ret
        exact ⟨rfl, below_drewN (Below.refl _ _) _⟩
      · go_enter Try.func40, Try.ntmps40
        go_wp2_with fail
        go_quiet (fail)
        go_wp2_with fail
        go_ret
        exact ⟨rfl, below_drewN (Below.refl _ _) _⟩
    · go_enter Try.func40, Try.ntmps40
      go_wp2_with fail
      go_quiet (fail)
      go_wp2_with fail
      go_ret
      exact ⟨rfl, below_drewN (Below.refl _ _) _⟩
set_option maxHeartbeats 4000000 in
theorem rtake_any (bp : Nat) (A : Option Addr) (c : Nat) (ts : List Lx.Tok) (s : St) (m : Lx.Bs) (w : World) (h : RowAt w bp 66 A c ts s) :
    Calls Try.prog 39 #[.pointer (some ⟨bp, 0, none⟩), .string ⟨m.toArray⟩] w fun e w' => e = .returned (.bool (sees ts s m)) ∧ Took w bp 66 A c ts (if sees ts s m = true then s.adv else s) w' := by
  have HS := Lib.hid (ris_any bp A c ts s m w h)
  have HR := Lib.hid h
  have hle := h.le
  have hlen := h.len
  clear h
  rcases hq : sees ts s m with _ | _
  · rw [if_neg (by decide)]
    rw [hq] at HS
    clear hq
    go_enter Try.func39, Try.ntmps39
    go_wp2_with fail
    refine HS.out.mono ?_
    rintro e w1 ⟨rfl, hb1⟩
    have HB := Lib.hid hb1
    clear hb1
    go_wp2_with fail
    go_ret
    exact ⟨rfl, HR.out.below HB.out (Nat.le_refl _), grown_of_below HB.out _⟩
  · have HL := Lib.hid (sees_lt hq)
    rw [if_pos rfl]
    rw [hq] at HS
    clear hq
    go_enter Try.func39, Try.ntmps39
    go_wp2_with fail
    refine HS.out.mono ?_
    rintro e w1 ⟨rfl, hb1⟩
    have HB := Lib.hid hb1
    have HR1 := Lib.hid (HR.out.below hb1 (Nat.le_refl _))
    obtain ⟨c0, c1, c2, f1, f2⟩ := HR1.out.cells
    clear hb1
    go_wp2_with fail
    go_ret
    exact ⟨rfl, HR1.out.setAt HL.out.2, World.grownBy.trans (grown_of_below HB.out _) (grown_setCell _ _ _ _)⟩
set_option maxHeartbeats 4000000 in
theorem rneed_any (bp : Nat) (A : Option Addr) (c : Nat) (ts : List Lx.Tok) (s : St) (m : Lx.Bs) (w : World) (h : RowAt w bp 66 A c ts s) :
    Calls Try.prog 36 #[.pointer (some ⟨bp, 0, none⟩), .string ⟨m.toArray⟩] w fun e w' => e = .returned (.tuple #[]) ∧ Took w bp 66 A c ts (need ts s m) w' := by
  have HS := Lib.hid (rtake_any bp A c ts s m w h)
  clear h
  unfold need
  rcases hq : sees ts s m with _ | _
  · rw [if_neg (by decide)]
    rw [hq, if_neg (by decide)] at HS
    clear hq
    go_enter Try.func36, Try.ntmps36
    go_wp2_with fail
    refine HS.out.mono ?_
    rintro e w1 ⟨rfl, hr1, hg1⟩
    have HR1 := Lib.hid hr1
    have HG1 := Lib.hid hg1
    obtain ⟨c0, c1, c2, f1, f2⟩ := HR1.out.cells
    clear hr1 hg1
    go_wp2_with fail
    go_end0
    exact ⟨rfl, HR1.out.setBad, World.grownBy.trans HG1.out (grown_setCell _ _ _ _)⟩
  · rw [if_pos rfl]
    rw [hq, if_pos rfl] at HS
    clear hq
    go_enter Try.func36, Try.ntmps36
    go_wp2_with fail
    refine HS.out.mono ?_
    rintro e w1 ⟨rfl, hr1, hg1⟩
    have HR1 := Lib.hid hr1
    have HG1 := Lib.hid hg1
    clear hr1 hg1
    go_wp2_with fail
    go_end0
    exact ⟨rfl, HR1.out, HG1.out⟩
end Go.Proofs.Ytilkilffkjhhbaa
namespace Go.Proofs.Ytilkilffkjhhbaa
set_option maxRecDepth 20000
set_option linter.unusedVariables false
open Go.RowKit Tr Mem

set_option maxHeartbeats 8000000 in
theorem rkind_any (bp : Nat) (A : Option Addr) (c : Nat) (ts : List Lx.Tok) (s : St) (k : Int) (w : World) (h : RowAt w bp 66 A c ts s) :
    Calls Try.prog 37 #[.pointer (some ⟨bp, 0, none⟩), .int .i64 k] w fun e w' => e = .returned (tokAgg (token ts s k).1) ∧ Took w bp 66 A c ts (token ts s k).2 w' := by
  have HR := Lib.hid h
  have hle := h.le
  have hlen := h.len
  have htk : token ts s k = if (has ts s && (cur ts s).kind == k) = true then (cur ts s, s.adv) else (zeroTok, s.fail) := by
    unfold token
    rw [isKind_cur]
    rcases hh : has ts s with _ | _
    · rw [Bool.false_and]; rfl
    · rw [tok_cur hh]; rfl
  have HZ0 : Hid (∀ V, Below w.heap.size w (w.alloc V)) := fun V => (Below.refl _ _).alloc (Nat.le_refl _) V
  rcases hb : s.bad with _ | _
  rotate_left
  · have hr : token ts s k = (zeroTok, s.fail) := by rw [htk, has_no (.inl hb)]; rfl
    rw [hr]
    unfold tokAgg zeroTok
    dsimp only
    clear htk hr h
    go_enter Try.func37, Try.ntmps37
    go_upto_region 1 with (fail)
    obtain ⟨W0, hW0⟩ : ∃ W0, W0 = w.alloc (.cells #[.int .i64 0, .string ⟨#[]⟩, .int .i32 0, .int .i64 0] 40) := ⟨_, rfl⟩
    rw [← hW0]
    have HB0 : Hid (Below w.heap.size w W0) := by rw [hW0]; exact HZ0.out _
    have HZ : Hid (W0.heap[w.heap.size]? = some (.cells #[.int .i64 0, .string ⟨#[]⟩, .int .i32 0, .int .i64 0] 40 (0, 0))) := by rw [hW0]; exact heap_alloc_new _ _
    clear hW0
    have HR1 := Lib.hid (HR.out.below HB0.out (Nat.le_refl _))
    have hbw := HR.out.lt
    obtain ⟨c0, c1, c2, g1, g2⟩ := HR1.out.cells
    rw [hb] at c2
    go_quiet (fail)
    obtain ⟨W1, hW1⟩ : ∃ W, W = W0.drewN nq := ⟨_, rfl⟩
    rw [← hW1]
    have HB1 : Hid (Below w.heap.size w W1) := by rw [hW1]; exact below_drewN HB0.out _
    have HZ1 : Hid (W1.heap[w.heap.size]? = some (.cells #[.int .i64 0, .string ⟨#[]⟩, .int .i32 0, .int .i64 0] 40 (0, 0))) := by rw [hW1]; exact HZ.out
    have HR2 := Lib.hid (HR.out.below HB1.out (Nat.le_refl _))
    clear hW1 c0 c1 c2 g1 g2 HB0 HZ HR1
    obtain ⟨c0, c1, c2, g1, g2⟩ := HR2.out.cells
    go_upto_region 3 with (fail)
    obtain ⟨W3, hW3⟩ : ∃ W3, W3 = W1.setCell ⟨bp, 2, none⟩ (.bool true) := ⟨_, rfl⟩
    rw [← hW3]
    have HR3 : Hid (RowAt W3 bp 66 A c ts s.fail) := by rw [hW3]; exact HR2.out.setBad
    have HG3 : Hid (w.grownBy W3 (some bp)) := by rw [hW3]; exact World.grownBy.trans (grown_of_below HB1.out _) (grown_setCell _ _ _ _)
    have HZ3 : Hid (W3.heap[w.heap.size]? = some (.cells #[.int .i64 0, .string ⟨#[]⟩, .int .i32 0, .int .i64 0] 40 (0, 0))) := by rw [hW3]; exact (heap_setCell_other _ _ _ _ (by simp only; omega)).trans HZ1.out
    clear hW3 c0 c1 c2 g1 g2
    obtain ⟨k0, k1, k2, k3, f0, f1, f2, f3⟩ := row4 HZ3.out
    go_wp2_with fail
    exact ret_row 4 rfl rfl rfl (setrow4 HZ3.out _ _ _ _) Try.underlying40 infoTokS ⟨rfl, took_set4 HR3.out HG3.out HR.out (Nat.le_refl _) _ _ _ _⟩
  by_cases hlt : s.at_ < ts.length
  rotate_left
  · have hr : token ts s k = (zeroTok, s.fail) := by rw [htk, has_no (.inr (by omega))]; rfl
    rw [hr]
    unfold tokAgg zeroTok
    dsimp only
    have hd : decide ((ts.length : Int) ≤ (s.at_ : Int)) = true := decide_eq_true (by omega)
    clear htk hr h
    go_enter Try.func37, Try.ntmps37
    go_upto_region 1 with (fail)
    obtain ⟨W0, hW0⟩ : ∃ W0, W0 = w.alloc (.cells #[.int .i64 0, .string ⟨#[]⟩, .int .i32 0, .int .i64 0] 40) := ⟨_, rfl⟩
    rw [← hW0]
    have HB0 : Hid (Below w.heap.size w W0) := by rw [hW0]; exact HZ0.out _
    have HZ : Hid (W0.heap[w.heap.size]? = some (.cells #[.int .i64 0, .string ⟨#[]⟩, .int .i32 0, .int .i64 0] 40 (0, 0))) := by rw [hW0]; exact heap_alloc_new _ _
    clear hW0
    have HR1 := Lib.hid (HR.out.below HB0.out (Nat.le_refl _))
    have hbw := HR.out.lt
    obtain ⟨c0, c1, c2, g1, g2⟩ := HR1.out.cells
    rw [hb] at c2
    go_quiet (fail)
    obtain ⟨W1, hW1⟩ : ∃ W, W = W0.drewN nq := ⟨_, rfl⟩
    rw [← hW1]
    have HB1 : Hid (Below w.heap.size w W1) := by rw [hW1]; exact below_drewN HB0.out _
    have HZ1 : Hid (W1.heap[w.heap.size]? = some (.cells #[.int .i64 0, .string ⟨#[]⟩, .int .i32 0, .int .i64 0] 40 (0, 0))) := by rw [hW1]; exact HZ.out
    have HR2 := Lib.hid (HR.out.below HB1.out (Nat.le_refl _))
    clear hW1 c0 c1 c2 g1 g2 HB0 HZ HR1
    obtain ⟨c0, c1, c2, g1, g2⟩ := HR2.out.cells
    go_upto_region 3 with (fail)
    obtain ⟨W3, hW3⟩ : ∃ W3, W3 = W1.setCell ⟨bp, 2, none⟩ (.bool true) := ⟨_, rfl⟩
    rw [← hW3]
    have HR3 : Hid (RowAt W3 bp 66 A c ts s.fail) := by rw [hW3]; exact HR2.out.setBad
    have HG3 : Hid (w.grownBy W3 (some bp)) := by rw [hW3]; exact World.grownBy.trans (grown_of_below HB1.out _) (grown_setCell _ _ _ _)
    have HZ3 : Hid (W3.heap[w.heap.size]? = some (.cells #[.int .i64 0, .string ⟨#[]⟩, .int .i32 0, .int .i64 0] 40 (0, 0))) := by rw [hW3]; exact (heap_setCell_other _ _ _ _ (by simp only; omega)).trans HZ1.out
    clear hW3 c0 c1 c2 g1 g2
    obtain ⟨k0, k1, k2, k3, f0, f1, f2, f3⟩ := row4 HZ3.out
    go_wp2_with fail
    exact ret_row 4 rfl rfl rfl (setrow4 HZ3.out _ _ _ _) Try.underlying40 infoTokS ⟨rfl, took_set4 HR3.out HG3.out HR.out (Nat.le_refl _) _ _ _ _⟩
  have hd : decide ((ts.length : Int) ≤ (s.at_ : Int)) = false := decide_eq_false (by omega)
  have hr0 : (0 : Int) ≤ s.at_ := by omega
  have hr1 : (s.at_ : Int) < (ts.length : Int) := by omega
  rw [has_yes hb hlt, cur_yes hb hlt, Bool.true_and] at htk
  rcases hk : ((ts[s.at_]'hlt).kind == k) with _ | _
  · have hr : token ts s k = (zeroTok, s.fail) := by rw [htk, hk]; rfl
    rw [hr]
    unfold tokAgg zeroTok
    dsimp only
    clear htk hr h
    generalize hteq : ts[s.at_]'hlt = t at *
    obtain ⟨kd, tx, n, pl⟩ := t
    dsimp only at hk ⊢
    go_enter Try.func37, Try.ntmps37
    go_upto_region 1 with (fail)
    obtain ⟨W0, hW0⟩ : ∃ W0, W0 = w.alloc (.cells #[.int .i64 0, .string ⟨#[]⟩, .int .i32 0, .int .i64 0] 40) := ⟨_, rfl⟩
    rw [← hW0]
    have HB0 : Hid (Below w.heap.size w W0) := by rw [hW0]; exact HZ0.out _
    have HZ : Hid (W0.heap[w.heap.size]? = some (.cells #[.int .i64 0, .string ⟨#[]⟩, .int .i32 0, .int .i64 0] 40 (0, 0))) := by rw [hW0]; exact heap_alloc_new _ _
    clear hW0
    have HR1 := Lib.hid (HR.out.below HB0.out (Nat.le_refl _))
    have hbw := HR.out.lt
    obtain ⟨c0, c1, c2, g1, g2⟩ := HR1.out.cells
    rw [hb] at c2
    obtain ⟨b, off, rfl, t0, t1, t2, t3⟩ := HR1.out.toks s.at_ hlt
    rw [hteq] at t0 t1 t2 t3
    dsimp only at t0 t1 t2 t3
    clear hteq
    have hne : (kd != k) = true := by rw [bne, hk]; rfl
    go_quiet (fail)
    obtain ⟨W1, hW1⟩ : ∃ W, W = W0.drewN nq := ⟨_, rfl⟩
    rw [← hW1]
    have HB1 : Hid (Below w.heap.size w W1) := by rw [hW1]; exact below_drewN HB0.out _
    have HZ1 : Hid (W1.heap[w.heap.size]? = some (.cells #[.int .i64 0, .string ⟨#[]⟩, .int .i32 0, .int .i64 0] 40 (0, 0))) := by rw [hW1]; exact HZ.out
    have HR2 := Lib.hid (HR.out.below HB1.out (Nat.le_refl _))
    clear hW1 c0 c1 c2 g1 g2 HB0 HZ HR1
    obtain ⟨c0, c1, c2, g1, g2⟩ := HR2.out.cells
    go_upto_region 3 with (fail)
    obtain ⟨W3, hW3⟩ : ∃ W3, W3 = W1.setCell ⟨bp, 2, none⟩ (.bool true) := ⟨_, rfl⟩
    rw [← hW3]
    have HR3 : Hid (RowAt W3 bp 66 (some ⟨b, off, none⟩) c ts s.fail) := by rw [hW3]; exact HR2.out.setBad
    have HG3 : Hid (w.grownBy W3 (some bp)) := by rw [hW3]; exact World.grownBy.trans (grown_of_below HB1.out _) (grown_setCell _ _ _ _)
    have HZ3 : Hid (W3.heap[w.heap.size]? = some (.cells #[.int .i64 0, .string ⟨#[]⟩, .int .i32 0, .int .i64 0] 40 (0, 0))) := by rw [hW3]; exact (heap_setCell_other _ _ _ _ (by simp only; omega)).trans HZ1.out
    clear hW3 c0 c1 c2 g1 g2
    obtain ⟨k0, k1, k2, k3, f0, f1, f2, f3⟩ := row4 HZ3.out
    go_wp2_with fail
    exact ret_row 4 rfl rfl rfl (setrow4 HZ3.out _ _ _ _) Try.underlying40 infoTokS ⟨rfl, took_set4 HR3.out HG3.out HR.out (Nat.le_refl _) _ _ _ _⟩
  · have hr : token ts s k = (ts[s.at_]'hlt, s.adv) := by rw [htk, hk]; rfl
    rw [hr]
    unfold tokAgg
    dsimp only
    clear htk hr h
    generalize hteq : ts[s.at_]'hlt = t at *
    obtain ⟨kd, tx, n, pl⟩ := t
    dsimp only at hk ⊢
    go_enter Try.func37, Try.ntmps37
    go_upto_region 1 with (fail)
    obtain ⟨W0, hW0⟩ : ∃ W0, W0 = w.alloc (.cells #[.int .i64 0, .string ⟨#[]⟩, .int .i32 0, .int .i64 0] 40) := ⟨_, rfl⟩
    rw [← hW0]
    have HB0 : Hid (Below w.heap.size w W0) := by rw [hW0]; exact HZ0.out _
    have HZ : Hid (W0.heap[w.heap.size]? = some (.cells #[.int .i64 0, .string ⟨#[]⟩, .int .i32 0, .int .i64 0] 40 (0, 0))) := by rw [hW0]; exact heap_alloc_new _ _
    clear hW0
    have HR1 := Lib.hid (HR.out.below HB0.out (Nat.le_refl _))
    have hbw := HR.out.lt
    obtain ⟨c0, c1, c2, g1, g2⟩ := HR1.out.cells
    rw [hb] at c2
    obtain ⟨b, off, rfl, t0, t1, t2, t3⟩ := HR1.out.toks s.at_ hlt
    rw [hteq] at t0 t1 t2 t3
    dsimp only at t0 t1 t2 t3
    clear hteq
    have hne : (kd != k) = false := by rw [bne, hk]; rfl
    have hbt : b < W0.heap.size := World.block_lt_of_cell? _ _ t0
    go_quiet (fail)
    obtain ⟨W1, hW1⟩ : ∃ W, W = W0.drewN nq := ⟨_, rfl⟩
    rw [← hW1]
    have HB1 : Hid (Below w.heap.size w W1) := by rw [hW1]; exact below_drewN HB0.out _
    have HZ1 : Hid (W1.heap[w.heap.size]? = some (.cells #[.int .i64 0, .string ⟨#[]⟩, .int .i32 0, .int .i64 0] 40 (0, 0))) := by rw [hW1]; exact HZ.out
    have HR2 := Lib.hid (HR.out.below HB1.out (Nat.le_refl _))
    have u0 : W1.cell? ⟨b, off + s.at_ * 4, none⟩ = some (.int .i64 kd) := by rw [hW1]; exact t0
    have u1 : W1.cell? ⟨b, off + s.at_ * 4 + 1, none⟩ = some (.string ⟨tx.toArray⟩) := by rw [hW1]; exact t1
    have u2 : W1.cell? ⟨b, off + s.at_ * 4 + 2, none⟩ = some (.int .i32 n) := by rw [hW1]; exact t2
    have u3 : W1.cell? ⟨b, off + s.at_ * 4 + 3, none⟩ = some (.int .i64 pl) := by rw [hW1]; exact t3
    clear hW1 t0 t1 t2 t3 c0 c1 c2 g1 g2 HB0 HZ HR1
    obtain ⟨c0, c1, c2, g1, g2⟩ := HR2.out.cells
    go_upto_region 5 with (fail)
    obtain ⟨W3, hW3⟩ : ∃ W3, W3 = W1.setCell ⟨bp, 1, none⟩ (.int .i64 ((s.at_ : Int) + 1)) := ⟨_, rfl⟩
    rw [← hW3]
    have hnb : b ≠ bp := HR2.out.ne b off none rfl
    have HR3 : Hid (RowAt W3 bp 66 (some ⟨b, off, none⟩) c ts s.adv) := by rw [hW3]; exact HR2.out.setAt hlt
    have HG3 : Hid (w.grownBy W3 (some bp)) := by rw [hW3]; exact World.grownBy.trans (grown_of_below HB1.out _) (grown_setCell _ _ _ _)
    have HZ3 : Hid (W3.heap[w.heap.size]? = some (.cells #[.int .i64 0, .string ⟨#[]⟩, .int .i32 0, .int .i64 0] 40 (0, 0))) := by rw [hW3]; exact (heap_setCell_other _ _ _ _ (by simp only; omega)).trans HZ1.out
    have sm : ∀ o, W3.cell? ⟨b, o, none⟩ = W1.cell? ⟨b, o, none⟩ := fun o => World.cell?_of_block (w := W1) (a := ⟨b, o, none⟩) (by rw [hW3]; exact heap_setCell_other _ _ _ _ hnb)
    replace u0 := (sm _).trans u0
    replace u1 := (sm _).trans u1
    replace u2 := (sm _).trans u2
    replace u3 := (sm _).trans u3
    clear hW3 sm c0 c1 c2 g1 g2
    obtain ⟨k0, k1, k2, k3, f0, f1, f2, f3⟩ := row4 HZ3.out
    obtain ⟨c0, c1, c2, g1, g2⟩ := HR3.out.cells
    have had : ((s.adv.at_ : Nat) : Int) = (s.at_ : Int) + 1 := by simp [St.adv]
    rw [had] at c1
    clear had
    have hx1 : (s.at_ : Int) + 1 - 1 = (s.at_ : Int) := by omega
    go_big_region
    go_wp2_with fail
    exact ret_row 4 rfl rfl rfl (row_drew (setrow4 HZ3.out _ _ _ _)) Try.underlying40 infoTokS ⟨rfl, (took_set4 HR3.out HG3.out HR.out (Nat.le_refl _) _ _ _ _).below ((Below.refl _ _).drew)⟩
end Go.Proofs.Ytilkilffkjhhbaa
namespace Go.Proofs.Ytilkilffkjhhbaa
set_option maxRecDepth 20000
set_option linter.unusedVariables false
open Go.RowKit Tr Mem

def intCells (l : List Int) : List Value := l.map fun o => .int .i64 o
set_option maxHeartbeats 8000000 in
theorem rlevel_any (n : Nat) (hn : n ≤ 5) (w : World) :
    Calls Try.prog 119 #[.int .i64 (n : Int)] w fun e w' => ∃ g, e = .returned (.slice (some ⟨g, 0, none⟩) (ops n).length (ops n).length) ∧ w'.heap[g]? = some (.cells (intCells (ops n)).toArray 3 (0, 0)) ∧ w.heap.size ≤ g ∧ Below w.heap.size w w' := by
  have HW0 : Hid (∀ V, Below w.heap.size w (w.alloc V)) := fun V => (Below.refl _ _).alloc (Nat.le_refl _) V
  rcases (show n = 0 ∨ n = 1 ∨ n = 2 ∨ n = 3 ∨ n = 4 ∨ n = 5 by omega) with rfl | rfl | rfl | rfl | rfl | rfl
  all_goals
    go_enter Try.func119, Try.ntmps119
    go_wp2_with fail
    go_ret
    exact ⟨w.heap.size, rfl, heap_alloc_new _ _, Nat.le_refl _, HW0.out _⟩
theorem among_drop (ts : List Lx.Tok) (s : St) (l : List Int) (j : Nat) (h : j < l.length) : among ts s (l.drop j) = if sees ts s (opm (l[j]'h)) = true then l[j]'h else among ts s (l.drop (j + 1)) := by
  rw [List.drop_eq_getElem_cons h, among_cons]
set_option maxRecDepth 100000 in
set_option maxHeartbeats 8000000 in
theorem ramong_any (bp : Nat) (A : Option Addr) (c : Nat) (ts : List Lx.Tok) (s : St) (g cc : Nat) (l : List Int) (hl : ∀ o ∈ l, 1 ≤ o ∧ o ≤ 16) (hll : l.length ≤ 100) (hne : g ≠ bp) (w : World) (h : RowAt w bp 66 A c ts s) (hg : w.heap[g]? = some (.cells (intCells l).toArray 3 (0, 0))) :
    Calls Try.prog 118 #[.pointer (some ⟨bp, 0, none⟩), .slice (some ⟨g, 0, none⟩) l.length cc] w fun e w' => e = .returned (.int .i64 (among ts s l)) ∧ Took w bp 66 A c ts (if among ts s l = 0 then s else s.adv) w' := by
  have HR := Lib.hid h
  have HT := Lib.hid (fun W m h => rtake_any bp A c ts s m W h)
  have HOP := Lib.hid (fun o h1 h2 W => refops o h1 h2 W)
  have HL := Lib.hid hl
  have HC : Hid (∀ (W : World) (j : Nat) (hj : j < l.length), w.grownBy W (some bp) → W.cell? ⟨g, j, none⟩ = some (.int .i64 (l[j]'hj))) := fun W j hj hk => by
    have h1 : W.heap[g]? = some (.cells (intCells l).toArray 3 (0, 0)) := (hk.block g (Array.getElem?_eq_some_iff.1 hg).1 (fun e => by injection e with e; exact hne e)).trans hg
    rw [cell_of_row W g j _ _ _ h1]
    simp [intCells, hj]
  obtain ⟨r, hr⟩ : ∃ r, r = among ts s l := ⟨_, rfl⟩
  rw [← hr]
  have HJ0 : Hid (r = among ts s (l.drop 0)) := by unfold RowKit.Hid; rw [List.drop_zero, hr]
  obtain ⟨sz, hsz⟩ : ∃ z, z = if r = 0 then s else s.adv := ⟨_, rfl⟩
  rw [← hsz]
  have HSZ := Lib.hid hsz
  clear h hl hg hr hsz
  go_enter Try.func118, Try.ntmps118
  go_wp2_with fail
  go_loopw [5] (fun i wr => ∃ j : Nat, j ≤ l.length ∧ i = .int .i64 j ∧ Hid (r = among ts s (l.drop j)) ∧ Hid (Took w bp 66 A c ts s wr)) (fun i _ => l.length - (intOf i).toNat)
  case atStart => exact ⟨0, Nat.zero_le _, rfl, HJ0, took_refl HR.out⟩
  case round =>
    clear HJ0
    obtain ⟨j, hj, rfl, HJ, HK⟩ := hrel
    by_cases hlt : j < l.length
    · have c0 := HC.out _ j hlt HK.out.2
      have ho := HL.out _ (List.getElem_mem hlt)
      have hj2 := HJ.out
      rw [among_drop ts s l j hlt] at hj2
      have HCC : Hid (∀ W, w.grownBy W (some bp) → W.cell? ⟨g, j, none⟩ = some (.int .i64 (l[j]'hlt))) := fun W h => HC.out W j hlt h
      generalize l[j]'hlt = o at *
      have HJ2 := Lib.hid hj2
      have hr0 : (0 : Int) ≤ (j : Int) := by omega
      have hr1 : (j : Int) < (l.length : Int) := by omega
      clear hj2 HJ
      go_wp2_with fail
      refine (HOP.out o ho.1 ho.2 _).mono ?_
      rintro e w1 ⟨rfl, hb1⟩
      have HK1 := Lib.hid (HK.out.below hb1)
      clear hb1 c0
      go_wp2_with fail
      refine (HT.out _ (opm o) HK1.out.1).mono ?_
      rcases hq : sees ts s (opm o) with _ | _
      · rw [hq, if_neg (by decide)] at HJ2
        rw [if_neg (by decide)]
        rintro e w2 ⟨rfl, hk2⟩
        have HK2 := Lib.hid (HK1.out.trans hk2)
        clear hk2 hq
        go_wp2_with fail
        go_roundw
        case rel => exact ⟨j + 1, by omega, by go_num, HJ2.out, HK2.out⟩
        case measure => simp [intOf]; omega
      · rw [hq, if_pos rfl] at HJ2
        rw [if_pos rfl]
        rintro e w2 ⟨rfl, hk2⟩
        have HK2 := Lib.hid (HK1.out.trans hk2)
        have c0 := HCC.out _ HK2.out.2
        clear hk2 hq
        go_wp2_with fail
        go_ret
        have hs : sz = s.adv := by rw [HSZ.out, HJ2.out, if_neg (by omega)]
        rw [HJ2.out, hs]
        exact ⟨rfl, HK2.out⟩
    · obtain rfl : j = l.length := by omega
      have HR0 : Hid (r = 0) := by unfold RowKit.Hid; rw [HJ.out, List.drop_length]; rfl
      go_wp2_with fail
      go_ret
      have hs : sz = s := by rw [HSZ.out, HR0.out, if_pos rfl]
      rw [HR0.out, hs]
      exact ⟨rfl, HK.out⟩
end Go.Proofs.Ytilkilffkjhhbaa
