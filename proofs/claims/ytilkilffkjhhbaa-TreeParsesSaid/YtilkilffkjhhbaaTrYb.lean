/-
  The reference's lexer: one, the token at a place.
  The reference's lexer: Scan.
-/
import Derived.Test.YtilkilffkjhhbaaTrYa
import Derived.Test.YtilkilffkjhhbaaTrPa
namespace Go.Proofs.Ytilkilffkjhhbaa
set_option maxRecDepth 20000
set_option linter.unusedVariables false
open Go.RowKit Tr Mem
attribute [local go_sem] ex_take ex_drop ba_get

/-- what one hands back -/
def OnePost (l : Lx.Bs) (a : Nat) (w : World) (e : Ending) (w' : World) : Prop :=
  ∃ t, e = .returned (.tuple #[tokAgg t, .int .i64 (Lx.next (l.drop a)).2]) ∧ ((Lx.next (l.drop a)).2 = 0 → t = { (Lx.next (l.drop a)).1 with at_ := (a : Int) }) ∧ Below w.heap.size w w'
theorem ex_mid (l : Lx.Bs) (a n : Nat) : (ByteArray.mk l.toArray).extract a (a + n) = ⟨((l.drop a).take n).toArray⟩ := by
  apply ByteArray.ext
  simp [List.take_drop, ByteArray.data_extract]
theorem hd_mid (p : Int → Bool) (l : Lx.Bs) (a e : Nat) (he : e = a + (Lx.hd p (l.drop a)).length) : (ByteArray.mk l.toArray).extract a e = ⟨(Lx.hd p (l.drop a)).toArray⟩ := by
  rw [he, ex_mid, ← Lx.hd_prefix]
theorem drop_head {l : Lx.Bs} {a : Nat} (h : a < l.length) : (l.drop a).headD 0 = l[a]'h := by
  rw [drop_cons h]; rfl
/-- a token's own row -/
def trow (t : Lx.Tok) : Array Value := #[.int .i64 t.kind, .string ⟨t.text.toArray⟩, .int .i32 t.n, .int .i64 t.at_]
theorem ret_one {fn : Func} {l : Lx.Bs} {a' : Nat} {w : World} {a : Act} {W : World} (t : Lx.Tok) {v0 v1 v2 v3 x0 x1 x2 x3 : Value} (hr : fn.results = #[.cell 4 40, .tmp 5])
    (h2 : a.tmps.getD 4 undef = .pointer (some ⟨w.heap.size, 0, none⟩)) (h3 : a.tmps.getD 5 undef = .int .i64 (Lx.next (l.drop a')).2) (hd : a.defers = []) (hz : W.heap[w.heap.size]? = some (.cells #[v0, v1, v2, v3] 40 (0, 0))) (hb : Below w.heap.size w W)
    (h : (Lx.next (l.drop a')).2 = 0 → t = { (Lx.next (l.drop a')).1 with at_ := (a' : Int) }) (e0 : x0 = .int .i64 t.kind) (e1 : x1 = .string ⟨t.text.toArray⟩) (e2 : x2 = .int .i32 t.n) (e3 : x3 = .int .i64 t.at_) :
    bodyPost Try.prog fn (OnePost l a' w) .ret a ((((W.setCell ⟨w.heap.size, 0, none⟩ x0).setCell ⟨w.heap.size, 1, none⟩ x1).setCell ⟨w.heap.size, 2, none⟩ x2).setCell ⟨w.heap.size, 3, none⟩ x3) := by
  subst e0 e1 e2 e3
  exact ret_row_tmp 4 5 hr h2 h3 hd (setrow4 hz _ _ _ _) Try.underlying40 infoTokS ⟨t, rfl, h, below_set4 hb (Nat.le_refl _) _ _ _ _⟩

set_option maxHeartbeats 4000000 in
theorem one_word (l : Lx.Bs) (a : Nat) (hlt : a < l.length) (hl : l.length ≤ 4096) (h1 : Lx.letter ((l[a]'hlt).toNat : Int) = true) (hw : Lx.isWord (Lx.hd Lx.inner (l.drop a)) = true) (w : World) :
    Calls Try.prog 70 #[.string ⟨l.toArray⟩, .int .i64 a] w (OnePost l a w) := by
  have HL : Hid (l.length ≤ maxLen) := by unfold RowKit.Hid maxLen; omega
  have HLT := Lib.hid hlt
  have hd0 := drop_head hlt
  have hcb : ((l[a]'hlt).toNat : Int) ≤ 255 := by have := (l[a]'hlt).toNat_lt; omega
  have HW0 : Hid (∀ V, Below w.heap.size w (w.alloc V)) := fun V => (Below.refl _ _).alloc (Nat.le_refl _) V
  have hnx := Lx.next_letter (l := l.drop a) (by rw [hd0]; exact h1)
  have H1 := Lib.hid h1
  clear h1 hd0
  rw [hw, if_pos rfl] at hnx
  have hmid := hd_mid Lx.inner l a _ rfl
  have hple : (Lx.hd Lx.inner (l.drop a)).length ≤ (l.drop a).length := hd_le _ _
  rw [List.length_drop] at hple
  generalize htx : Lx.hd Lx.inner (l.drop a) = tx at *
  have HTX := Lib.hid htx
  clear htx
  obtain ⟨ed, hed⟩ : ∃ ed : Nat, ed = a + tx.length := ⟨_, rfl⟩
  rw [← hed] at hmid
  have hii : (a : Int) + (tx.length : Int) = (ed : Int) := by omega
  have r0 : (0 : Int) ≤ (a : Int) := by omega
  have r1 : (a : Int) ≤ (ed : Int) := by omega
  have r2 : (ed : Int) ≤ (l.length : Int) := by omega
  have r3 : a ≤ ed := by omega
  have r4 : ed ≤ l.length := by omega
  have HTL : Hid (tx.length ≤ maxLen) := by unfold RowKit.Hid maxLen; omega
  have HNX := Lib.hid hnx
  clear hnx hed hple
  have HW := Lib.hid hw
  clear hw
  go_enter Try.func70, Try.ntmps70
  go_wp2_with fail
  obtain ⟨W0, hW0⟩ : ∃ W0, W0 = w.alloc (.cells #[.int .i64 0, .string ⟨#[]⟩, .int .i32 0, .int .i64 0] 40) := ⟨_, rfl⟩
  rw [← hW0]
  have HB0 : Hid (Below w.heap.size w W0) := by rw [hW0]; exact HW0.out _
  have HZ0 : Hid (W0.heap[w.heap.size]? = some (.cells #[.int .i64 0, .string ⟨#[]⟩, .int .i32 0, .int .i64 0] 40 (0, 0))) := by rw [hW0]; exact heap_alloc_new _ _
  clear hW0
  refine (refletter_any _ _).mono ?_
  rintro e w' ⟨rfl, rfl⟩
  rw [H1.out]
  go_wp2_with fail
  refine (refrun0 l a (Nat.le_of_lt HLT.out) HL.out _).mono ?_
  rintro e w' ⟨rfl, rfl⟩
  rw [HTX.out]
  go_wp2_with fail
  obtain ⟨W1, hW1⟩ : ∃ W1, W1 = W0.alloc (.cells #[.int .i64 1, .string ⟨tx.toArray⟩, .int .i32 0, .int .i64 a] 40) := ⟨_, rfl⟩
  rw [← hW1]
  have hbx : Below W0.heap.size W0 W1 := by rw [hW1]; exact (Below.refl _ _).alloc (Nat.le_refl _) _
  have HT1 : Hid (W1.heap[W0.heap.size]? = some (.cells #[.int .i64 1, .string ⟨tx.toArray⟩, .int .i32 0, .int .i64 a] 40 (0, 0))) := by rw [hW1]; exact heap_alloc_new _ _
  have hlo : w.heap.size < W0.heap.size := (Array.getElem?_eq_some_iff.1 HZ0.out).1
  have HZ1 := Lib.hid ((hbx.block _ hlo).trans HZ0.out)
  have HB1 := Lib.hid (HB0.out.trans (hbx.mono HB0.out.size))
  clear hW1 hbx
  refine (refword tx _).mono ?_
  rintro e w2 ⟨rfl, hb⟩
  rw [HW.out]
  have hs1 := (Array.getElem?_eq_some_iff.1 HT1.out).1
  have HT2 := Lib.hid ((hb.block _ hs1).trans HT1.out)
  have HZ2 := Lib.hid ((hb.block _ (by omega)).trans HZ1.out)
  have HB2 := Lib.hid (HB1.out.trans (hb.mono HB1.out.size))
  clear hb HT1 HZ1 HB1 HB0 HZ0
  obtain ⟨t0, t1, t2, t3, g0, g1, g2, g3⟩ := row4 HT2.out
  obtain ⟨k0, k1, k2, k3, f0, f1, f2, f3⟩ := row4 HZ2.out
  go_upto_region 5 with (fail)
  obtain ⟨W3, hW3⟩ : ∃ W3, W3 = w2.setCell ⟨W0.heap.size, 0, none⟩ (.int .i64 3) := ⟨_, rfl⟩
  rw [← hW3]
  have HT3 : Hid (W3.heap[W0.heap.size]? = some (.cells #[.int .i64 3, .string ⟨tx.toArray⟩, .int .i32 0, .int .i64 a] 40 (0, 0))) := by rw [hW3, heap_setCell_same _ _ _ _ _ _ HT2.out]; rfl
  have HZ3 : Hid (W3.heap[w.heap.size]? = some (.cells #[.int .i64 0, .string ⟨#[]⟩, .int .i32 0, .int .i64 0] 40 (0, 0))) := by rw [hW3, heap_setCell_other _ _ _ _ (by simp only; omega)]; exact HZ2.out
  have HB3 : Hid (Below w.heap.size w W3) := by rw [hW3]; exact HB2.out.setCell (by dsimp only; omega) _
  clear hW3 t0 t1 t2 t3 g0 g1 g2 g3 k0 k1 k2 k3 f0 f1 f2 f3
  obtain ⟨t0, t1, t2, t3, g0, g1, g2, g3⟩ := row4 HT3.out
  obtain ⟨k0, k1, k2, k3, f0, f1, f2, f3⟩ := row4 HZ3.out
  go_wp2_with fail
  exact ret_one ⟨3, tx, 0, a⟩ rfl rfl (by rw [HNX.out]; rfl) rfl HZ3.out HB3.out (fun h => by rw [HNX.out]) rfl rfl rfl rfl
set_option maxHeartbeats 4000000 in
theorem one_big (l : Lx.Bs) (a : Nat) (hlt : a < l.length) (hl : l.length ≤ 4096) (h1 : Lx.letter ((l[a]'hlt).toNat : Int) = true) (hw : Lx.isWord (Lx.hd Lx.inner (l.drop a)) = false) (hg : 16 < (Lx.hd Lx.inner (l.drop a)).length) (w : World) :
    Calls Try.prog 70 #[.string ⟨l.toArray⟩, .int .i64 a] w (OnePost l a w) := by
  have HL : Hid (l.length ≤ maxLen) := by unfold RowKit.Hid maxLen; omega
  have HLT := Lib.hid hlt
  have hd0 := drop_head hlt
  have hcb : ((l[a]'hlt).toNat : Int) ≤ 255 := by have := (l[a]'hlt).toNat_lt; omega
  have HW0 : Hid (∀ V, Below w.heap.size w (w.alloc V)) := fun V => (Below.refl _ _).alloc (Nat.le_refl _) V
  have hnx := Lx.next_letter (l := l.drop a) (by rw [hd0]; exact h1)
  have H1 := Lib.hid h1
  clear h1 hd0
  rw [hw, if_neg (by decide), if_pos hg] at hnx
  have hmid := hd_mid Lx.inner l a _ rfl
  have hple : (Lx.hd Lx.inner (l.drop a)).length ≤ (l.drop a).length := hd_le _ _
  rw [List.length_drop] at hple
  generalize htx : Lx.hd Lx.inner (l.drop a) = tx at *
  have HTX := Lib.hid htx
  clear htx
  obtain ⟨ed, hed⟩ : ∃ ed : Nat, ed = a + tx.length := ⟨_, rfl⟩
  rw [← hed] at hmid
  have hii : (a : Int) + (tx.length : Int) = (ed : Int) := by omega
  have r0 : (0 : Int) ≤ (a : Int) := by omega
  have r1 : (a : Int) ≤ (ed : Int) := by omega
  have r2 : (ed : Int) ≤ (l.length : Int) := by omega
  have r3 : a ≤ ed := by omega
  have r4 : ed ≤ l.length := by omega
  have HTL : Hid (tx.length ≤ maxLen) := by unfold RowKit.Hid maxLen; omega
  have HNX := Lib.hid hnx
  clear hnx hed hple
  have HW := Lib.hid hw
  have hg1 : (16 : Int) < (tx.length : Int) := by omega
  clear hw
  go_enter Try.func70, Try.ntmps70
  go_wp2_with fail
  obtain ⟨W0, hW0⟩ : ∃ W0, W0 = w.alloc (.cells #[.int .i64 0, .string ⟨#[]⟩, .int .i32 0, .int .i64 0] 40) := ⟨_, rfl⟩
  rw [← hW0]
  have HB0 : Hid (Below w.heap.size w W0) := by rw [hW0]; exact HW0.out _
  have HZ0 : Hid (W0.heap[w.heap.size]? = some (.cells #[.int .i64 0, .string ⟨#[]⟩, .int .i32 0, .int .i64 0] 40 (0, 0))) := by rw [hW0]; exact heap_alloc_new _ _
  clear hW0
  refine (refletter_any _ _).mono ?_
  rintro e w' ⟨rfl, rfl⟩
  rw [H1.out]
  go_wp2_with fail
  refine (refrun0 l a (Nat.le_of_lt HLT.out) HL.out _).mono ?_
  rintro e w' ⟨rfl, rfl⟩
  rw [HTX.out]
  go_wp2_with fail
  obtain ⟨W1, hW1⟩ : ∃ W1, W1 = W0.alloc (.cells #[.int .i64 1, .string ⟨tx.toArray⟩, .int .i32 0, .int .i64 a] 40) := ⟨_, rfl⟩
  rw [← hW1]
  have hbx : Below W0.heap.size W0 W1 := by rw [hW1]; exact (Below.refl _ _).alloc (Nat.le_refl _) _
  have HT1 : Hid (W1.heap[W0.heap.size]? = some (.cells #[.int .i64 1, .string ⟨tx.toArray⟩, .int .i32 0, .int .i64 a] 40 (0, 0))) := by rw [hW1]; exact heap_alloc_new _ _
  have hlo : w.heap.size < W0.heap.size := (Array.getElem?_eq_some_iff.1 HZ0.out).1
  have HZ1 := Lib.hid ((hbx.block _ hlo).trans HZ0.out)
  have HB1 := Lib.hid (HB0.out.trans (hbx.mono HB0.out.size))
  clear hW1 hbx
  refine (refword tx _).mono ?_
  rintro e w2 ⟨rfl, hb⟩
  rw [HW.out]
  have hs1 := (Array.getElem?_eq_some_iff.1 HT1.out).1
  have HT2 := Lib.hid ((hb.block _ hs1).trans HT1.out)
  have HZ2 := Lib.hid ((hb.block _ (by omega)).trans HZ1.out)
  have HB2 := Lib.hid (HB1.out.trans (hb.mono HB1.out.size))
  clear hb HT1 HZ1 HB1 HB0 HZ0
  obtain ⟨t0, t1, t2, t3, g0, g1, g2, g3⟩ := row4 HT2.out
  obtain ⟨k0, k1, k2, k3, f0, f1, f2, f3⟩ := row4 HZ2.out
  go_wp2_with fail
  exact ret_one ⟨1, tx, 0, a⟩ rfl rfl (by rw [HNX.out]; rfl) rfl HZ2.out HB2.out (fun h => by rw [HNX.out] at h; simp at h) rfl rfl rfl rfl
set_option maxHeartbeats 4000000 in
theorem one_name (l : Lx.Bs) (a : Nat) (hlt : a < l.length) (hl : l.length ≤ 4096) (h1 : Lx.letter ((l[a]'hlt).toNat : Int) = true) (hw : Lx.isWord (Lx.hd Lx.inner (l.drop a)) = false) (hg : ¬ 16 < (Lx.hd Lx.inner (l.drop a)).length) (w : World) :
    Calls Try.prog 70 #[.string ⟨l.toArray⟩, .int .i64 a] w (OnePost l a w) := by
  have HL : Hid (l.length ≤ maxLen) := by unfold RowKit.Hid maxLen; omega
  have HLT := Lib.hid hlt
  have hd0 := drop_head hlt
  have hcb : ((l[a]'hlt).toNat : Int) ≤ 255 := by have := (l[a]'hlt).toNat_lt; omega
  have HW0 : Hid (∀ V, Below w.heap.size w (w.alloc V)) := fun V => (Below.refl _ _).alloc (Nat.le_refl _) V
  have hnx := Lx.next_letter (l := l.drop a) (by rw [hd0]; exact h1)
  have H1 := Lib.hid h1
  clear h1 hd0
  rw [hw, if_neg (by decide), if_neg hg] at hnx
  have hmid := hd_mid Lx.inner l a _ rfl
  have hple : (Lx.hd Lx.inner (l.drop a)).length ≤ (l.drop a).length := hd_le _ _
  rw [List.length_drop] at hple
  generalize htx : Lx.hd Lx.inner (l.drop a) = tx at *
  have HTX := Lib.hid htx
  clear htx
  obtain ⟨ed, hed⟩ : ∃ ed : Nat, ed = a + tx.length := ⟨_, rfl⟩
  rw [← hed] at hmid
  have hii : (a : Int) + (tx.length : Int) = (ed : Int) := by omega
  have r0 : (0 : Int) ≤ (a : Int) := by omega
  have r1 : (a : Int) ≤ (ed : Int) := by omega
  have r2 : (ed : Int) ≤ (l.length : Int) := by omega
  have r3 : a ≤ ed := by omega
  have r4 : ed ≤ l.length := by omega
  have HTL : Hid (tx.length ≤ maxLen) := by unfold RowKit.Hid maxLen; omega
  have HNX := Lib.hid hnx
  clear hnx hed hple
  have HW := Lib.hid hw
  have hg1 : ¬ (16 : Int) < (tx.length : Int) := by omega
  clear hw
  go_enter Try.func70, Try.ntmps70
  go_wp2_with fail
  obtain ⟨W0, hW0⟩ : ∃ W0, W0 = w.alloc (.cells #[.int .i64 0, .string ⟨#[]⟩, .int .i32 0, .int .i64 0] 40) := ⟨_, rfl⟩
  rw [← hW0]
  have HB0 : Hid (Below w.heap.size w W0) := by rw [hW0]; exact HW0.out _
  have HZ0 : Hid (W0.heap[w.heap.size]? = some (.cells #[.int .i64 0, .string ⟨#[]⟩, .int .i32 0, .int .i64 0] 40 (0, 0))) := by rw [hW0]; exact heap_alloc_new _ _
  clear hW0
  refine (refletter_any _ _).mono ?_
  rintro e w' ⟨rfl, rfl⟩
  rw [H1.out]
  go_wp2_with fail
  refine (refrun0 l a (Nat.le_of_lt HLT.out) HL.out _).mono ?_
  rintro e w' ⟨rfl, rfl⟩
  rw [HTX.out]
  go_wp2_with fail
  obtain ⟨W1, hW1⟩ : ∃ W1, W1 = W0.alloc (.cells #[.int .i64 1, .string ⟨tx.toArray⟩, .int .i32 0, .int .i64 a] 40) := ⟨_, rfl⟩
  rw [← hW1]
  have hbx : Below W0.heap.size W0 W1 := by rw [hW1]; exact (Below.refl _ _).alloc (Nat.le_refl _) _
  have HT1 : Hid (W1.heap[W0.heap.size]? = some (.cells #[.int .i64 1, .string ⟨tx.toArray⟩, .int .i32 0, .int .i64 a] 40 (0, 0))) := by rw [hW1]; exact heap_alloc_new _ _
  have hlo : w.heap.size < W0.heap.size := (Array.getElem?_eq_some_iff.1 HZ0.out).1
  have HZ1 := Lib.hid ((hbx.block _ hlo).trans HZ0.out)
  have HB1 := Lib.hid (HB0.out.trans (hbx.mono HB0.out.size))
  clear hW1 hbx
  refine (refword tx _).mono ?_
  rintro e w2 ⟨rfl, hb⟩
  rw [HW.out]
  have hs1 := (Array.getElem?_eq_some_iff.1 HT1.out).1
  have HT2 := Lib.hid ((hb.block _ hs1).trans HT1.out)
  have HZ2 := Lib.hid ((hb.block _ (by omega)).trans HZ1.out)
  have HB2 := Lib.hid (HB1.out.trans (hb.mono HB1.out.size))
  clear hb HT1 HZ1 HB1 HB0 HZ0
  obtain ⟨t0, t1, t2, t3, g0, g1, g2, g3⟩ := row4 HT2.out
  obtain ⟨k0, k1, k2, k3, f0, f1, f2, f3⟩ := row4 HZ2.out
  go_wp2_with fail
  exact ret_one ⟨1, tx, 0, a⟩ rfl rfl (by rw [HNX.out]; rfl) rfl HZ2.out HB2.out (fun h => by rw [HNX.out]) rfl rfl rfl rfl
set_option maxHeartbeats 4000000 in
theorem one_num (l : Lx.Bs) (a : Nat) (hlt : a < l.length) (hl : l.length ≤ 4096) (h1 : Lx.letter ((l[a]'hlt).toNat : Int) = false) (h2 : Lx.digit ((l[a]'hlt).toNat : Int) = true) (hr : Lx.readOk (Lx.hd Lx.digit (l.drop a)) = true) (w : World) :
    Calls Try.prog 70 #[.string ⟨l.toArray⟩, .int .i64 a] w (OnePost l a w) := by
  have HL : Hid (l.length ≤ maxLen) := by unfold RowKit.Hid maxLen; omega
  have HLT := Lib.hid hlt
  have hd0 := drop_head hlt
  have hcb : ((l[a]'hlt).toNat : Int) ≤ 255 := by have := (l[a]'hlt).toNat_lt; omega
  have HW0 : Hid (∀ V, Below w.heap.size w (w.alloc V)) := fun V => (Below.refl _ _).alloc (Nat.le_refl _) V
  have hnx := Lx.next_digit (l := l.drop a) (by rw [hd0]; exact h1) (by rw [hd0]; exact h2)
  have H1 := Lib.hid h1
  clear h1 hd0
  have H2 := Lib.hid h2
  clear h2
  rw [hr, if_pos rfl] at hnx
  have hmid := hd_mid Lx.digit l a _ rfl
  have hple : (Lx.hd Lx.digit (l.drop a)).length ≤ (l.drop a).length := hd_le _ _
  rw [List.length_drop] at hple
  have hne : Lx.hd Lx.digit (l.drop a) ≠ [] := List.length_pos_iff.1 (Lx.hd_pos (by rw [drop_cons HLT.out]; exact List.cons_ne_nil _ _) (by rw [drop_head HLT.out]; exact H2.out))
  have had : AllDigits (Lx.hd Lx.digit (l.drop a)) := Lx.mem_tw _ _
  generalize htx : Lx.hd Lx.digit (l.drop a) = tx at *
  have HTX := Lib.hid htx
  clear htx
  obtain ⟨ed, hed⟩ : ∃ ed : Nat, ed = a + tx.length := ⟨_, rfl⟩
  rw [← hed] at hmid
  have hii : (a : Int) + (tx.length : Int) = (ed : Int) := by omega
  have r0 : (0 : Int) ≤ (a : Int) := by omega
  have r1 : (a : Int) ≤ (ed : Int) := by omega
  have r2 : (ed : Int) ≤ (l.length : Int) := by omega
  have r3 : a ≤ ed := by omega
  have r4 : ed ≤ l.length := by omega
  have HTL : Hid (tx.length ≤ maxLen) := by unfold RowKit.Hid maxLen; omega
  have HNX := Lib.hid hnx
  clear hnx hed hple
  have HRD := Lib.hid (fun W => refread tx hne had HTL.out W)
  rw [hr] at HRD
  rw [if_pos rfl] at HRD
  generalize Lx.numVal tx = nv at *
  clear hr hne had
  go_enter Try.func70, Try.ntmps70
  go_wp2_with fail
  obtain ⟨W0, hW0⟩ : ∃ W0, W0 = w.alloc (.cells #[.int .i64 0, .string ⟨#[]⟩, .int .i32 0, .int .i64 0] 40) := ⟨_, rfl⟩
  rw [← hW0]
  have HB0 : Hid (Below w.heap.size w W0) := by rw [hW0]; exact HW0.out _
  have HZ0 : Hid (W0.heap[w.heap.size]? = some (.cells #[.int .i64 0, .string ⟨#[]⟩, .int .i32 0, .int .i64 0] 40 (0, 0))) := by rw [hW0]; exact heap_alloc_new _ _
  clear hW0
  refine (refletter_any _ _).mono ?_
  rintro e w' ⟨rfl, rfl⟩
  rw [H1.out]
  go_wp2_with fail
  refine (refdigit_any _ _).mono ?_
  rintro e w' ⟨rfl, rfl⟩
  rw [H2.out]
  go_wp2_with fail
  refine (refrun1 l a (Nat.le_of_lt HLT.out) HL.out _).mono ?_
  rintro e w' ⟨rfl, rfl⟩
  rw [HTX.out]
  go_wp2_with fail
  obtain ⟨W1, hW1⟩ : ∃ W1, W1 = W0.alloc (.cells #[.int .i64 2, .string ⟨tx.toArray⟩, .int .i32 0, .int .i64 a] 40) := ⟨_, rfl⟩
  rw [← hW1]
  have hbx : Below W0.heap.size W0 W1 := by rw [hW1]; exact (Below.refl _ _).alloc (Nat.le_refl _) _
  have HT1 : Hid (W1.heap[W0.heap.size]? = some (.cells #[.int .i64 2, .string ⟨tx.toArray⟩, .int .i32 0, .int .i64 a] 40 (0, 0))) := by rw [hW1]; exact heap_alloc_new _ _
  have hlo : w.heap.size < W0.heap.size := (Array.getElem?_eq_some_iff.1 HZ0.out).1
  have HZ1 := Lib.hid ((hbx.block _ hlo).trans HZ0.out)
  have HB1 := Lib.hid (HB0.out.trans (hbx.mono HB0.out.size))
  clear hW1 hbx
  refine (HRD.out _).mono ?_
  rintro e w2 ⟨rfl, hb⟩
  have hs1 := (Array.getElem?_eq_some_iff.1 HT1.out).1
  have HT2 := Lib.hid ((hb.block _ hs1).trans HT1.out)
  have HZ2 := Lib.hid ((hb.block _ (by omega)).trans HZ1.out)
  have HB2 := Lib.hid (HB1.out.trans (hb.mono HB1.out.size))
  clear hb HT1 HZ1 HB1 HB0 HZ0
  obtain ⟨t0, t1, t2, t3, g0, g1, g2, g3⟩ := row4 HT2.out
  obtain ⟨k0, k1, k2, k3, f0, f1, f2, f3⟩ := row4 HZ2.out
  go_upto_region 15 with (fail)
  obtain ⟨W3, hW3⟩ : ∃ W3, W3 = w2.setCell ⟨W0.heap.size, 2, none⟩ (.int .i32 nv) := ⟨_, rfl⟩
  rw [← hW3]
  have HT3 : Hid (W3.heap[W0.heap.size]? = some (.cells #[.int .i64 2, .string ⟨tx.toArray⟩, .int .i32 nv, .int .i64 a] 40 (0, 0))) := by rw [hW3, heap_setCell_same _ _ _ _ _ _ HT2.out]; rfl
  have HZ3 : Hid (W3.heap[w.heap.size]? = some (.cells #[.int .i64 0, .string ⟨#[]⟩, .int .i32 0, .int .i64 0] 40 (0, 0))) := by rw [hW3, heap_setCell_other _ _ _ _ (by simp only; omega)]; exact HZ2.out
  have HB3 : Hid (Below w.heap.size w W3) := by rw [hW3]; exact HB2.out.setCell (by dsimp only; omega) _
  clear hW3 t0 t1 t2 t3 g0 g1 g2 g3 k0 k1 k2 k3 f0 f1 f2 f3
  obtain ⟨t0, t1, t2, t3, g0, g1, g2, g3⟩ := row4 HT3.out
  obtain ⟨k0, k1, k2, k3, f0, f1, f2, f3⟩ := row4 HZ3.out
  go_wp2_with fail
  exact ret_one ⟨2, tx, nv, a⟩ rfl rfl (by rw [HNX.out]; rfl) rfl HZ3.out HB3.out (fun h => by rw [HNX.out]) rfl rfl rfl rfl
set_option maxHeartbeats 4000000 in
theorem one_bad (l : Lx.Bs) (a : Nat) (hlt : a < l.length) (hl : l.length ≤ 4096) (h1 : Lx.letter ((l[a]'hlt).toNat : Int) = false) (h2 : Lx.digit ((l[a]'hlt).toNat : Int) = true) (hr : Lx.readOk (Lx.hd Lx.digit (l.drop a)) = false) (w : World) :
    Calls Try.prog 70 #[.string ⟨l.toArray⟩, .int .i64 a] w (OnePost l a w) := by
  have HL : Hid (l.length ≤ maxLen) := by unfold RowKit.Hid maxLen; omega
  have HLT := Lib.hid hlt
  have hd0 := drop_head hlt
  have hcb : ((l[a]'hlt).toNat : Int) ≤ 255 := by have := (l[a]'hlt).toNat_lt; omega
  have HW0 : Hid (∀ V, Below w.heap.size w (w.alloc V)) := fun V => (Below.refl _ _).alloc (Nat.le_refl _) V
  have hnx := Lx.next_digit (l := l.drop a) (by rw [hd0]; exact h1) (by rw [hd0]; exact h2)
  have H1 := Lib.hid h1
  clear h1 hd0
  have H2 := Lib.hid h2
  clear h2
  rw [hr, if_neg (by decide)] at hnx
  have hmid := hd_mid Lx.digit l a _ rfl
  have hple : (Lx.hd Lx.digit (l.drop a)).length ≤ (l.drop a).length := hd_le _ _
  rw [List.length_drop] at hple
  have hne : Lx.hd Lx.digit (l.drop a) ≠ [] := List.length_pos_iff.1 (Lx.hd_pos (by rw [drop_cons HLT.out]; exact List.cons_ne_nil _ _) (by rw [drop_head HLT.out]; exact H2.out))
  have had : AllDigits (Lx.hd Lx.digit (l.drop a)) := Lx.mem_tw _ _
  generalize htx : Lx.hd Lx.digit (l.drop a) = tx at *
  have HTX := Lib.hid htx
  clear htx
  obtain ⟨ed, hed⟩ : ∃ ed : Nat, ed = a + tx.length := ⟨_, rfl⟩
  rw [← hed] at hmid
  have hii : (a : Int) + (tx.length : Int) = (ed : Int) := by omega
  have r0 : (0 : Int) ≤ (a : Int) := by omega
  have r1 : (a : Int) ≤ (ed : Int) := by omega
  have r2 : (ed : Int) ≤ (l.length : Int) := by omega
  have r3 : a ≤ ed := by omega
  have r4 : ed ≤ l.length := by omega
  have HTL : Hid (tx.length ≤ maxLen) := by unfold RowKit.Hid maxLen; omega
  have HNX := Lib.hid hnx
  clear hnx hed hple
  have HRD := Lib.hid (fun W => refread tx hne had HTL.out W)
  rw [hr] at HRD
  rw [if_neg (by decide)] at HRD
  clear hr hne had
  go_enter Try.func70, Try.ntmps70
  go_wp2_with fail
  obtain ⟨W0, hW0⟩ : ∃ W0, W0 = w.alloc (.cells #[.int .i64 0, .string ⟨#[]⟩, .int .i32 0, .int .i64 0] 40) := ⟨_, rfl⟩
  rw [← hW0]
  have HB0 : Hid (Below w.heap.size w W0) := by rw [hW0]; exact HW0.out _
  have HZ0 : Hid (W0.heap[w.heap.size]? = some (.cells #[.int .i64 0, .string ⟨#[]⟩, .int .i32 0, .int .i64 0] 40 (0, 0))) := by rw [hW0]; exact heap_alloc_new _ _
  clear hW0
  refine (refletter_any _ _).mono ?_
  rintro e w' ⟨rfl, rfl⟩
  rw [H1.out]
  go_wp2_with fail
  refine (refdigit_any _ _).mono ?_
  rintro e w' ⟨rfl, rfl⟩
  rw [H2.out]
  go_wp2_with fail
  refine (refrun1 l a (Nat.le_of_lt HLT.out) HL.out _).mono ?_
  rintro e w' ⟨rfl, rfl⟩
  rw [HTX.out]
  go_wp2_with fail
  obtain ⟨W1, hW1⟩ : ∃ W1, W1 = W0.alloc (.cells #[.int .i64 2, .string ⟨tx.toArray⟩, .int .i32 0, .int .i64 a] 40) := ⟨_, rfl⟩
  rw [← hW1]
  have hbx : Below W0.heap.size W0 W1 := by rw [hW1]; exact (Below.refl _ _).alloc (Nat.le_refl _) _
  have HT1 : Hid (W1.heap[W0.heap.size]? = some (.cells #[.int .i64 2, .string ⟨tx.toArray⟩, .int .i32 0, .int .i64 a] 40 (0, 0))) := by rw [hW1]; exact heap_alloc_new _ _
  have hlo : w.heap.size < W0.heap.size := (Array.getElem?_eq_some_iff.1 HZ0.out).1
  have HZ1 := Lib.hid ((hbx.block _ hlo).trans HZ0.out)
  have HB1 := Lib.hid (HB0.out.trans (hbx.mono HB0.out.size))
  clear hW1 hbx
  refine (HRD.out _).mono ?_
  rintro e w2 ⟨rfl, hb⟩
  have hs1 := (Array.getElem?_eq_some_iff.1 HT1.out).1
  have HT2 := Lib.hid ((hb.block _ hs1).trans HT1.out)
  have HZ2 := Lib.hid ((hb.block _ (by omega)).trans HZ1.out)
  have HB2 := Lib.hid (HB1.out.trans (hb.mono HB1.out.size))
  clear hb HT1 HZ1 HB1 HB0 HZ0
  obtain ⟨t0, t1, t2, t3, g0, g1, g2, g3⟩ := row4 HT2.out
  obtain ⟨k0, k1, k2, k3, f0, f1, f2, f3⟩ := row4 HZ2.out
  go_wp2_with fail
  exact ret_one ⟨2, tx, 0, a⟩ rfl rfl (by rw [HNX.out]; rfl) rfl HZ2.out HB2.out (fun h => by rw [HNX.out] at h; simp at h) rfl rfl rfl rfl
set_option maxHeartbeats 4000000 in
theorem one_m2 (l : Lx.Bs) (a : Nat) (hlt : a < l.length) (hl : l.length ≤ 4096) (h1 : Lx.letter ((l[a]'hlt).toNat : Int) = false) (h2 : Lx.digit ((l[a]'hlt).toNat : Int) = false) (hg : a + 2 ≤ l.length) (hm2 : Lx.isMark ((l.drop a).take 2) = true) (w : World) :
    Calls Try.prog 70 #[.string ⟨l.toArray⟩, .int .i64 a] w (OnePost l a w) := by
  have HL : Hid (l.length ≤ maxLen) := by unfold RowKit.Hid maxLen; omega
  have HLT := Lib.hid hlt
  have hd0 := drop_head hlt
  have hcb : ((l[a]'hlt).toNat : Int) ≤ 255 := by have := (l[a]'hlt).toNat_lt; omega
  have HW0 : Hid (∀ V, Below w.heap.size w (w.alloc V)) := fun V => (Below.refl _ _).alloc (Nat.le_refl _) V
  have hnx := Lx.next_mark (l := l.drop a) (by rw [hd0]; exact h1) (by rw [hd0]; exact h2)
  have H1 := Lib.hid h1
  clear h1 hd0
  have H2 := Lib.hid h2
  clear h2
  rw [List.length_drop] at hnx
  have hg2 : 2 ≤ l.length - a := by omega
  rw [if_pos ⟨hg2, hm2⟩] at hnx
  obtain ⟨e1, he1⟩ : ∃ e1 : Nat, e1 = a + 1 := ⟨_, rfl⟩
  obtain ⟨e2, he2⟩ : ∃ e2 : Nat, e2 = a + 2 := ⟨_, rfl⟩
  have hx1 : (ByteArray.mk l.toArray).extract a e1 = ⟨((l.drop a).take 1).toArray⟩ := by rw [he1, ex_mid]
  have hx2 : (ByteArray.mk l.toArray).extract a e2 = ⟨((l.drop a).take 2).toArray⟩ := by rw [he2, ex_mid]
  have i1 : (a : Int) + 1 = (e1 : Int) := by omega
  have i2 : (a : Int) + 2 = (e2 : Int) := by omega
  generalize (l.drop a).take 1 = x1 at *
  generalize (l.drop a).take 2 = x2 at *
  have r0 : (0 : Int) ≤ (a : Int) := by omega
  have r1 : (a : Int) ≤ (e1 : Int) := by omega
  have r2 : (a : Int) ≤ (e2 : Int) := by omega
  have r3 : (e1 : Int) ≤ (l.length : Int) := by omega
  have r4 : a ≤ e1 := by omega
  have r5 : a ≤ e2 := by omega
  have r6 : e1 ≤ l.length := by omega
  have r7 : (e2 : Int) ≤ (l.length : Int) := by omega
  have r8 : e2 ≤ l.length := by omega
  have HM2 := Lib.hid hm2
  clear hm2
  have HNX := Lib.hid hnx
  clear hnx he1 he2
  clear hg2 hg
  go_enter Try.func70, Try.ntmps70
  go_wp2_with fail
  obtain ⟨W0, hW0⟩ : ∃ W0, W0 = w.alloc (.cells #[.int .i64 0, .string ⟨#[]⟩, .int .i32 0, .int .i64 0] 40) := ⟨_, rfl⟩
  rw [← hW0]
  have HB0 : Hid (Below w.heap.size w W0) := by rw [hW0]; exact HW0.out _
  have HZ0 : Hid (W0.heap[w.heap.size]? = some (.cells #[.int .i64 0, .string ⟨#[]⟩, .int .i32 0, .int .i64 0] 40 (0, 0))) := by rw [hW0]; exact heap_alloc_new _ _
  clear hW0
  refine (refletter_any _ _).mono ?_
  rintro e w' ⟨rfl, rfl⟩
  rw [H1.out]
  go_wp2_with fail
  refine (refdigit_any _ _).mono ?_
  rintro e w' ⟨rfl, rfl⟩
  rw [H2.out]
  go_wp2_with fail
  refine wp_loop_rounds 3 ?_
  rw [rounds_succ]
  go_wp2_with fail
  refine (refmark x2 _).mono ?_
  rintro e w1 ⟨rfl, hb⟩
  rw [HM2.out]
  have hzs1 := (Array.getElem?_eq_some_iff.1 HZ0.out).1
  have HZ1 := Lib.hid ((hb.block _ hzs1).trans HZ0.out)
  have HB1 := Lib.hid (HB0.out.trans (hb.mono HB0.out.size))
  clear hb
  obtain ⟨k0, k1, k2, k3, f0, f1, f2, f3⟩ := row4 HZ1.out
  go_wp2_with fail
  exact ret_one ⟨4, x2, 0, a⟩ rfl rfl (by rw [HNX.out]; rfl) rfl HZ1.out HB1.out (fun h => by rw [HNX.out]) rfl rfl rfl rfl
set_option maxHeartbeats 4000000 in
theorem one_m1 (l : Lx.Bs) (a : Nat) (hlt : a < l.length) (hl : l.length ≤ 4096) (h1 : Lx.letter ((l[a]'hlt).toNat : Int) = false) (h2 : Lx.digit ((l[a]'hlt).toNat : Int) = false) (hg : a + 2 ≤ l.length) (hm2 : Lx.isMark ((l.drop a).take 2) = false) (hm1 : Lx.isMark ((l.drop a).take 1) = true) (w : World) :
    Calls Try.prog 70 #[.string ⟨l.toArray⟩, .int .i64 a] w (OnePost l a w) := by
  have HL : Hid (l.length ≤ maxLen) := by unfold RowKit.Hid maxLen; omega
  have HLT := Lib.hid hlt
  have hd0 := drop_head hlt
  have hcb : ((l[a]'hlt).toNat : Int) ≤ 255 := by have := (l[a]'hlt).toNat_lt; omega
  have HW0 : Hid (∀ V, Below w.heap.size w (w.alloc V)) := fun V => (Below.refl _ _).alloc (Nat.le_refl _) V
  have hnx := Lx.next_mark (l := l.drop a) (by rw [hd0]; exact h1) (by rw [hd0]; exact h2)
  have H1 := Lib.hid h1
  clear h1 hd0
  have H2 := Lib.hid h2
  clear h2
  rw [List.length_drop] at hnx
  have hg2 : 2 ≤ l.length - a := by omega
  rw [if_neg (fun h => by rw [hm2] at h; exact absurd h.2 (by decide)), if_pos hm1] at hnx
  obtain ⟨e1, he1⟩ : ∃ e1 : Nat, e1 = a + 1 := ⟨_, rfl⟩
  obtain ⟨e2, he2⟩ : ∃ e2 : Nat, e2 = a + 2 := ⟨_, rfl⟩
  have hx1 : (ByteArray.mk l.toArray).extract a e1 = ⟨((l.drop a).take 1).toArray⟩ := by rw [he1, ex_mid]
  have hx2 : (ByteArray.mk l.toArray).extract a e2 = ⟨((l.drop a).take 2).toArray⟩ := by rw [he2, ex_mid]
  have i1 : (a : Int) + 1 = (e1 : Int) := by omega
  have i2 : (a : Int) + 2 = (e2 : Int) := by omega
  generalize (l.drop a).take 1 = x1 at *
  generalize (l.drop a).take 2 = x2 at *
  have r0 : (0 : Int) ≤ (a : Int) := by omega
  have r1 : (a : Int) ≤ (e1 : Int) := by omega
  have r2 : (a : Int) ≤ (e2 : Int) := by omega
  have r3 : (e1 : Int) ≤ (l.length : Int) := by omega
  have r4 : a ≤ e1 := by omega
  have r5 : a ≤ e2 := by omega
  have r6 : e1 ≤ l.length := by omega
  have r7 : (e2 : Int) ≤ (l.length : Int) := by omega
  have r8 : e2 ≤ l.length := by omega
  have HM2 := Lib.hid hm2
  clear hm2
  have HM1 := Lib.hid hm1
  clear hm1
  have HNX := Lib.hid hnx
  clear hnx he1 he2
  clear hg2 hg
  go_enter Try.func70, Try.ntmps70
  go_wp2_with fail
  obtain ⟨W0, hW0⟩ : ∃ W0, W0 = w.alloc (.cells #[.int .i64 0, .string ⟨#[]⟩, .int .i32 0, .int .i64 0] 40) := ⟨_, rfl⟩
  rw [← hW0]
  have HB0 : Hid (Below w.heap.size w W0) := by rw [hW0]; exact HW0.out _
  have HZ0 : Hid (W0.heap[w.heap.size]? = some (.cells #[.int .i64 0, .string ⟨#[]⟩, .int .i32 0, .int .i64 0] 40 (0, 0))) := by rw [hW0]; exact heap_alloc_new _ _
  clear hW0
  refine (refletter_any _ _).mono ?_
  rintro e w' ⟨rfl, rfl⟩
  rw [H1.out]
  go_wp2_with fail
  refine (refdigit_any _ _).mono ?_
  rintro e w' ⟨rfl, rfl⟩
  rw [H2.out]
  go_wp2_with fail
  refine wp_loop_rounds 3 ?_
  rw [rounds_succ]
  go_wp2_with fail
  refine (refmark x2 _).mono ?_
  rintro e w1 ⟨rfl, hb⟩
  rw [HM2.out]
  have hzs1 := (Array.getElem?_eq_some_iff.1 HZ0.out).1
  have HZ1 := Lib.hid ((hb.block _ hzs1).trans HZ0.out)
  have HB1 := Lib.hid (HB0.out.trans (hb.mono HB0.out.size))
  clear hb
  go_wp2_with fail
  rw [rounds_succ]
  go_wp2_with fail
  refine (refmark x1 _).mono ?_
  rintro e w2 ⟨rfl, hb⟩
  rw [HM1.out]
  have hzs2 := (Array.getElem?_eq_some_iff.1 HZ1.out).1
  have HZ2 := Lib.hid ((hb.block _ hzs2).trans HZ1.out)
  have HB2 := Lib.hid (HB1.out.trans (hb.mono HB1.out.size))
  clear hb
  obtain ⟨k0, k1, k2, k3, f0, f1, f2, f3⟩ := row4 HZ2.out
  go_wp2_with fail
  exact ret_one ⟨4, x1, 0, a⟩ rfl rfl (by rw [HNX.out]; rfl) rfl HZ2.out HB2.out (fun h => by rw [HNX.out]) rfl rfl rfl rfl
set_option maxHeartbeats 4000000 in
theorem one_m0 (l : Lx.Bs) (a : Nat) (hlt : a < l.length) (hl : l.length ≤ 4096) (h1 : Lx.letter ((l[a]'hlt).toNat : Int) = false) (h2 : Lx.digit ((l[a]'hlt).toNat : Int) = false) (hg : a + 2 ≤ l.length) (hm2 : Lx.isMark ((l.drop a).take 2) = false) (hm1 : Lx.isMark ((l.drop a).take 1) = false) (w : World) :
    Calls Try.prog 70 #[.string ⟨l.toArray⟩, .int .i64 a] w (OnePost l a w) := by
  have HL : Hid (l.length ≤ maxLen) := by unfold RowKit.Hid maxLen; omega
  have HLT := Lib.hid hlt
  have hd0 := drop_head hlt
  have hcb : ((l[a]'hlt).toNat : Int) ≤ 255 := by have := (l[a]'hlt).toNat_lt; omega
  have HW0 : Hid (∀ V, Below w.heap.size w (w.alloc V)) := fun V => (Below.refl _ _).alloc (Nat.le_refl _) V
  have hnx := Lx.next_mark (l := l.drop a) (by rw [hd0]; exact h1) (by rw [hd0]; exact h2)
  have H1 := Lib.hid h1
  clear h1 hd0
  have H2 := Lib.hid h2
  clear h2
  rw [List.length_drop] at hnx
  have hg2 : 2 ≤ l.length - a := by omega
  rw [if_neg (fun h => by rw [hm2] at h; exact absurd h.2 (by decide)), if_neg (by rw [hm1]; decide)] at hnx
  obtain ⟨e1, he1⟩ : ∃ e1 : Nat, e1 = a + 1 := ⟨_, rfl⟩
  obtain ⟨e2, he2⟩ : ∃ e2 : Nat, e2 = a + 2 := ⟨_, rfl⟩
  have hx1 : (ByteArray.mk l.toArray).extract a e1 = ⟨((l.drop a).take 1).toArray⟩ := by rw [he1, ex_mid]
  have hx2 : (ByteArray.mk l.toArray).extract a e2 = ⟨((l.drop a).take 2).toArray⟩ := by rw [he2, ex_mid]
  have i1 : (a : Int) + 1 = (e1 : Int) := by omega
  have i2 : (a : Int) + 2 = (e2 : Int) := by omega
  generalize (l.drop a).take 1 = x1 at *
  generalize (l.drop a).take 2 = x2 at *
  have r0 : (0 : Int) ≤ (a : Int) := by omega
  have r1 : (a : Int) ≤ (e1 : Int) := by omega
  have r2 : (a : Int) ≤ (e2 : Int) := by omega
  have r3 : (e1 : Int) ≤ (l.length : Int) := by omega
  have r4 : a ≤ e1 := by omega
  have r5 : a ≤ e2 := by omega
  have r6 : e1 ≤ l.length := by omega
  have r7 : (e2 : Int) ≤ (l.length : Int) := by omega
  have r8 : e2 ≤ l.length := by omega
  have HM2 := Lib.hid hm2
  clear hm2
  have HM1 := Lib.hid hm1
  clear hm1
  have HNX := Lib.hid hnx
  clear hnx he1 he2
  clear hg2 hg
  go_enter Try.func70, Try.ntmps70
  go_wp2_with fail
  obtain ⟨W0, hW0⟩ : ∃ W0, W0 = w.alloc (.cells #[.int .i64 0, .string ⟨#[]⟩, .int .i32 0, .int .i64 0] 40) := ⟨_, rfl⟩
  rw [← hW0]
  have HB0 : Hid (Below w.heap.size w W0) := by rw [hW0]; exact HW0.out _
  have HZ0 : Hid (W0.heap[w.heap.size]? = some (.cells #[.int .i64 0, .string ⟨#[]⟩, .int .i32 0, .int .i64 0] 40 (0, 0))) := by rw [hW0]; exact heap_alloc_new _ _
  clear hW0
  refine (refletter_any _ _).mono ?_
  rintro e w' ⟨rfl, rfl⟩
  rw [H1.out]
  go_wp2_with fail
  refine (refdigit_any _ _).mono ?_
  rintro e w' ⟨rfl, rfl⟩
  rw [H2.out]
  go_wp2_with fail
  refine wp_loop_rounds 3 ?_
  rw [rounds_succ]
  go_wp2_with fail
  refine (refmark x2 _).mono ?_
  rintro e w1 ⟨rfl, hb⟩
  rw [HM2.out]
  have hzs1 := (Array.getElem?_eq_some_iff.1 HZ0.out).1
  have HZ1 := Lib.hid ((hb.block _ hzs1).trans HZ0.out)
  have HB1 := Lib.hid (HB0.out.trans (hb.mono HB0.out.size))
  clear hb
  go_wp2_with fail
  rw [rounds_succ]
  go_wp2_with fail
  refine (refmark x1 _).mono ?_
  rintro e w2 ⟨rfl, hb⟩
  rw [HM1.out]
  have hzs2 := (Array.getElem?_eq_some_iff.1 HZ1.out).1
  have HZ2 := Lib.hid ((hb.block _ hzs2).trans HZ1.out)
  have HB2 := Lib.hid (HB1.out.trans (hb.mono HB1.out.size))
  clear hb
  go_wp2_with fail
  rw [rounds_succ]
  obtain ⟨k0, k1, k2, k3, f0, f1, f2, f3⟩ := row4 HZ2.out
  go_wp2_with fail
  exact ret_one ⟨0, [], 0, 0⟩ rfl rfl (by rw [HNX.out]; rfl) rfl HZ2.out HB2.out (fun h => by rw [HNX.out] at h; simp at h) rfl rfl rfl rfl
set_option maxHeartbeats 4000000 in
theorem one_m1s (l : Lx.Bs) (a : Nat) (hlt : a < l.length) (hl : l.length ≤ 4096) (h1 : Lx.letter ((l[a]'hlt).toNat : Int) = false) (h2 : Lx.digit ((l[a]'hlt).toNat : Int) = false) (hg : ¬ a + 2 ≤ l.length) (hm1 : Lx.isMark ((l.drop a).take 1) = true) (w : World) :
    Calls Try.prog 70 #[.string ⟨l.toArray⟩, .int .i64 a] w (OnePost l a w) := by
  have HL : Hid (l.length ≤ maxLen) := by unfold RowKit.Hid maxLen; omega
  have HLT := Lib.hid hlt
  have hd0 := drop_head hlt
  have hcb : ((l[a]'hlt).toNat : Int) ≤ 255 := by have := (l[a]'hlt).toNat_lt; omega
  have HW0 : Hid (∀ V, Below w.heap.size w (w.alloc V)) := fun V => (Below.refl _ _).alloc (Nat.le_refl _) V
  have hnx := Lx.next_mark (l := l.drop a) (by rw [hd0]; exact h1) (by rw [hd0]; exact h2)
  have H1 := Lib.hid h1
  clear h1 hd0
  have H2 := Lib.hid h2
  clear h2
  rw [List.length_drop] at hnx
  rw [if_neg (fun h => by omega), if_pos hm1] at hnx
  obtain ⟨e1, he1⟩ : ∃ e1 : Nat, e1 = a + 1 := ⟨_, rfl⟩
  obtain ⟨e2, he2⟩ : ∃ e2 : Nat, e2 = a + 2 := ⟨_, rfl⟩
  have hx1 : (ByteArray.mk l.toArray).extract a e1 = ⟨((l.drop a).take 1).toArray⟩ := by rw [he1, ex_mid]
  have hx2 : (ByteArray.mk l.toArray).extract a e2 = ⟨((l.drop a).take 2).toArray⟩ := by rw [he2, ex_mid]
  have i1 : (a : Int) + 1 = (e1 : Int) := by omega
  have i2 : (a : Int) + 2 = (e2 : Int) := by omega
  generalize (l.drop a).take 1 = x1 at *
  generalize (l.drop a).take 2 = x2 at *
  have r0 : (0 : Int) ≤ (a : Int) := by omega
  have r1 : (a : Int) ≤ (e1 : Int) := by omega
  have r2 : (a : Int) ≤ (e2 : Int) := by omega
  have r3 : (e1 : Int) ≤ (l.length : Int) := by omega
  have r4 : a ≤ e1 := by omega
  have r5 : a ≤ e2 := by omega
  have r6 : e1 ≤ l.length := by omega
  have r7 : ¬ (e2 : Int) ≤ (l.length : Int) := by omega
  have HM1 := Lib.hid hm1
  clear hm1
  have HNX := Lib.hid hnx
  clear hnx he1 he2
  clear hg
  go_enter Try.func70, Try.ntmps70
  go_wp2_with fail
  obtain ⟨W0, hW0⟩ : ∃ W0, W0 = w.alloc (.cells #[.int .i64 0, .string ⟨#[]⟩, .int .i32 0, .int .i64 0] 40) := ⟨_, rfl⟩
  rw [← hW0]
  have HB0 : Hid (Below w.heap.size w W0) := by rw [hW0]; exact HW0.out _
  have HZ0 : Hid (W0.heap[w.heap.size]? = some (.cells #[.int .i64 0, .string ⟨#[]⟩, .int .i32 0, .int .i64 0] 40 (0, 0))) := by rw [hW0]; exact heap_alloc_new _ _
  clear hW0
  refine (refletter_any _ _).mono ?_
  rintro e w' ⟨rfl, rfl⟩
  rw [H1.out]
  go_wp2_with fail
  refine (refdigit_any _ _).mono ?_
  rintro e w' ⟨rfl, rfl⟩
  rw [H2.out]
  go_wp2_with fail
  refine wp_loop_rounds 3 ?_
  rw [rounds_succ]
  go_wp2_with fail
  rw [rounds_succ]
  go_wp2_with fail
  refine (refmark x1 _).mono ?_
  rintro e w1 ⟨rfl, hb⟩
  rw [HM1.out]
  have hzs1 := (Array.getElem?_eq_some_iff.1 HZ0.out).1
  have HZ1 := Lib.hid ((hb.block _ hzs1).trans HZ0.out)
  have HB1 := Lib.hid (HB0.out.trans (hb.mono HB0.out.size))
  clear hb
  obtain ⟨k0, k1, k2, k3, f0, f1, f2, f3⟩ := row4 HZ1.out
  go_wp2_with fail
  exact ret_one ⟨4, x1, 0, a⟩ rfl rfl (by rw [HNX.out]; rfl) rfl HZ1.out HB1.out (fun h => by rw [HNX.out]) rfl rfl rfl rfl
set_option maxHeartbeats 4000000 in
theorem one_m0s (l : Lx.Bs) (a : Nat) (hlt : a < l.length) (hl : l.length ≤ 4096) (h1 : Lx.letter ((l[a]'hlt).toNat : Int) = false) (h2 : Lx.digit ((l[a]'hlt).toNat : Int) = false) (hg : ¬ a + 2 ≤ l.length) (hm1 : Lx.isMark ((l.drop a).take 1) = false) (w : World) :
    Calls Try.prog 70 #[.string ⟨l.toArray⟩, .int .i64 a] w (OnePost l a w) := by
  have HL : Hid (l.length ≤ maxLen) := by unfold RowKit.Hid maxLen; omega
  have HLT := Lib.hid hlt
  have hd0 := drop_head hlt
  have hcb : ((l[a]'hlt).toNat : Int) ≤ 255 := by have := (l[a]'hlt).toNat_lt; omega
  have HW0 : Hid (∀ V, Below w.heap.size w (w.alloc V)) := fun V => (Below.refl _ _).alloc (Nat.le_refl _) V
  have hnx := Lx.next_mark (l := l.drop a) (by rw [hd0]; exact h1) (by rw [hd0]; exact h2)
  have H1 := Lib.hid h1
  clear h1 hd0
  have H2 := Lib.hid h2
  clear h2
  rw [List.length_drop] at hnx
  rw [if_neg (fun h => by omega), if_neg (by rw [hm1]; decide)] at hnx
  obtain ⟨e1, he1⟩ : ∃ e1 : Nat, e1 = a + 1 := ⟨_, rfl⟩
  obtain ⟨e2, he2⟩ : ∃ e2 : Nat, e2 = a + 2 := ⟨_, rfl⟩
  have hx1 : (ByteArray.mk l.toArray).extract a e1 = ⟨((l.drop a).take 1).toArray⟩ := by rw [he1, ex_mid]
  have hx2 : (ByteArray.mk l.toArray).extract a e2 = ⟨((l.drop a).take 2).toArray⟩ := by rw [he2, ex_mid]
  have i1 : (a : Int) + 1 = (e1 : Int) := by omega
  have i2 : (a : Int) + 2 = (e2 : Int) := by omega
  generalize (l.drop a).take 1 = x1 at *
  generalize (l.drop a).take 2 = x2 at *
  have r0 : (0 : Int) ≤ (a : Int) := by omega
  have r1 : (a : Int) ≤ (e1 : Int) := by omega
  have r2 : (a : Int) ≤ (e2 : Int) := by omega
  have r3 : (e1 : Int) ≤ (l.length : Int) := by omega
  have r4 : a ≤ e1 := by omega
  have r5 : a ≤ e2 := by omega
  have r6 : e1 ≤ l.length := by omega
  have r7 : ¬ (e2 : Int) ≤ (l.length : Int) := by omega
  have HM1 := Lib.hid hm1
  clear hm1
  have HNX := Lib.hid hnx
  clear hnx he1 he2
  clear hg
  go_enter Try.func70, Try.ntmps70
  go_wp2_with fail
  obtain ⟨W0, hW0⟩ : ∃ W0, W0 = w.alloc (.cells #[.int .i64 0, .string ⟨#[]⟩, .int .i32 0, .int .i64 0] 40) := ⟨_, rfl⟩
  rw [← hW0]
  have HB0 : Hid (Below w.heap.size w W0) := by rw [hW0]; exact HW0.out _
  have HZ0 : Hid (W0.heap[w.heap.size]? = some (.cells #[.int .i64 0, .string ⟨#[]⟩, .int .i32 0, .int .i64 0] 40 (0, 0))) := by rw [hW0]; exact heap_alloc_new _ _
  clear hW0
  refine (refletter_any _ _).mono ?_
  rintro e w' ⟨rfl, rfl⟩
  rw [H1.out]
  go_wp2_with fail
  refine (refdigit_any _ _).mono ?_
  rintro e w' ⟨rfl, rfl⟩
  rw [H2.out]
  go_wp2_with fail
  refine wp_loop_rounds 3 ?_
  rw [rounds_succ]
  go_wp2_with fail
  rw [rounds_succ]
  go_wp2_with fail
  refine (refmark x1 _).mono ?_
  rintro e w1 ⟨rfl, hb⟩
  rw [HM1.out]
  have hzs1 := (Array.getElem?_eq_some_iff.1 HZ0.out).1
  have HZ1 := Lib.hid ((hb.block _ hzs1).trans HZ0.out)
  have HB1 := Lib.hid (HB0.out.trans (hb.mono HB0.out.size))
  clear hb
  go_wp2_with fail
  rw [rounds_succ]
  obtain ⟨k0, k1, k2, k3, f0, f1, f2, f3⟩ := row4 HZ1.out
  go_wp2_with fail
  exact ret_one ⟨0, [], 0, 0⟩ rfl rfl (by rw [HNX.out]; rfl) rfl HZ1.out HB1.out (fun h => by rw [HNX.out] at h; simp at h) rfl rfl rfl rfl
theorem refone (l : Lx.Bs) (a : Nat) (hlt : a < l.length) (hl : l.length ≤ 4096) (w : World) : Calls Try.prog 70 #[.string ⟨l.toArray⟩, .int .i64 a] w (OnePost l a w) := by
  rcases h1 : Lx.letter ((l[a]'hlt).toNat : Int) with _ | _
  · rcases h2 : Lx.digit ((l[a]'hlt).toNat : Int) with _ | _
    · by_cases hg : a + 2 ≤ l.length
      · rcases hm2 : Lx.isMark ((l.drop a).take 2) with _ | _
        · rcases hm1 : Lx.isMark ((l.drop a).take 1) with _ | _
          · exact one_m0 l a hlt hl h1 h2 hg hm2 hm1 w
          · exact one_m1 l a hlt hl h1 h2 hg hm2 hm1 w
        · exact one_m2 l a hlt hl h1 h2 hg hm2 w
      · rcases hm1 : Lx.isMark ((l.drop a).take 1) with _ | _
        · exact one_m0s l a hlt hl h1 h2 hg hm1 w
        · exact one_m1s l a hlt hl h1 h2 hg hm1 w
    · rcases hr : Lx.readOk (Lx.hd Lx.digit (l.drop a)) with _ | _
      · exact one_bad l a hlt hl h1 h2 hr w
      · exact one_num l a hlt hl h1 h2 hr w
  · rcases hw : Lx.isWord (Lx.hd Lx.inner (l.drop a)) with _ | _
    · by_cases hg : 16 < (Lx.hd Lx.inner (l.drop a)).length
      · exact one_big l a hlt hl h1 hw hg w
      · exact one_name l a hlt hl h1 hw hg w
    · exact one_word l a hlt hl h1 hw w
end Go.Proofs.Ytilkilffkjhhbaa
namespace Go.Proofs.Ytilkilffkjhhbaa
set_option maxRecDepth 20000
set_option linter.unusedVariables false
open Go.RowKit Tr Mem
attribute [local go_sem] ex_take ex_drop ba_get

theorem drop_len_int {l : Lx.Bs} {k : Nat} (h : k ≤ l.length) : (l.length : Int) - ((l.drop k).length : Int) = (k : Int) := by rw [List.length_drop]; omega
set_option maxRecDepth 100000 in
set_option maxHeartbeats 8000000 in
theorem refscan (l : Lx.Bs) (hl : l.length ≤ maxLen) (w : World) : Calls Try.prog 35 #[.string ⟨l.toArray⟩] w (ScanGives l w) := by
  have HL := Lib.hid hl
  unfold maxLen at hl
  by_cases hbig : 4096 < l.length
  · have hs := Lib.hid (Lx.scan_big hbig)
    go_enter Try.func35, Try.ntmps35
    go_wp2
    go_ret3
    exact scanGives_mk hs.out (World.ownsRow_nil _ _ _ _) (Below.refl _ _)
  · have hs := Lib.hid (Lx.scan_small (l := l) (by omega))
    have hl4 : l.length ≤ 4096 := by omega
    have HL4 := Lib.hid hl4
    clear hbig
    have HS0 : Hid (∀ W, Calls Try.prog 69 #[.string ⟨l.toArray⟩, .int .i64 0] W (SkipPost l 0 W)) := fun W => refskip l 0 (Nat.zero_le _) HL.out W
    go_enter Try.func35, Try.ntmps35
    go_wp2_with fail
    refine (HS0.out _).mono ?_
    rintro e w0 ⟨k0, rfl, hk0, hdr, rfl⟩
    rw [List.drop_zero] at hdr
    have HA0 : Hid (ScanAt l [] (l.drop k0)) := by rw [hdr]; exact ScanAt.start l
    clear hdr
    go_wp2_with fail
    go_loopw [5, 6] (fun v u wr => ∃ (done : List Lx.Tok) (k : Nat), u = .int .i64 (k : Int) ∧ k ≤ l.length ∧ Hid (ScanAt l done (l.drop k)) ∧ done.length ≤ 4096 ∧ Hid (wr.ownsRow w.heap.size 40 4 v done.length (toksCells done)) ∧ Below w.heap.size w wr) (fun _ u _ => l.length - (intOf u).toNat)
    case atStart => exact ⟨[], k0, rfl, hk0, HA0.out, by simp, World.ownsRow_nil _ _ _ _, Below.refl _ _⟩
    case round =>
      obtain ⟨done, k, rfl, hk, HS, hdn, HO, hb⟩ := hrel
      by_cases hlt : k < l.length
      · have HONE := Lib.hid (fun W => refone l k hlt HL4.out W)
        have HLT := Lib.hid hlt
        have hne0 : l.drop k ≠ [] := by rw [drop_cons hlt]; exact List.cons_ne_nil _ _
        have hkl := drop_len_int (l := l) (Nat.le_of_lt hlt)
        by_cases he : (Lx.next (l.drop k)).2 = 0
        · have ht := Lx.next_text hne0 he
          have hst := HS.out.step hne0 he
          rw [hkl] at hst
          rw [List.drop_drop] at hst
          rw [List.length_drop] at ht
          have hroom := hst.room
          simp only [List.length_append, List.length_cons, List.length_nil] at hroom
          obtain ⟨t, htt⟩ : ∃ t : Lx.Tok, t = { (Lx.next (l.drop k)).1 with at_ := (k : Int) } := ⟨_, rfl⟩
          have HTT := Lib.hid htt
          have HE := Lib.hid he
          have htl : t.text.length = (Lx.next (l.drop k)).1.text.length := by rw [htt]
          rw [← htt, ← htl] at hst
          rw [← htl] at ht
          clear htt he hkl hne0 htl
          obtain ⟨kd, tx, nn, pl⟩ := t
          dsimp only at ht hst
          obtain ⟨-, ht1, ht2⟩ := ht
          obtain ⟨q, hq⟩ : ∃ q : Nat, q = k + tx.length := ⟨_, rfl⟩
          have hii : (k : Int) + (tx.length : Int) = (q : Int) := by omega
          have hql : q ≤ l.length := by omega
          have hkq : k < q := by omega
          rw [← hq] at hst
          have HST := Lib.hid hst
          have HSKQ := Lib.hid (fun W => refskip l q hql HL.out W)
          clear hst hq ht1 ht2
          obtain ⟨i0, hi, hz0, hz1, hz2⟩ := info_parts infoTok
          go_wp2_with fail
          refine (HONE.out _).mono ?_
          rintro e w1 ⟨t', rfl, ht', hb1⟩
          have htn := (ht' HE.out).trans HTT.out.symm
          subst htn
          clear ht'
          rw [HE.out]
          unfold tokAgg
          have HB := Lib.hid (hb.trans (hb1.mono hb.size))
          have hz1' : wr.heap.size ≤ w1.heap.size := hb1.size
          have hown1 := Lib.hid (own_below HO.out hb1)
          have hlt2 := Lib.hid HO.out.lt
          clear hb1
          go_wp2_with ((at_builtin; refine wpList_append_own _ rfl _ _ 36 rfl w.heap.size 40 i0 (.agg #[.int .i64 0, .string ⟨#[]⟩, .int .i32 0, .int .i64 0]) 4 40 Try.underlying36 hi hz0 hz1 hz2 rfl (by decide) _ _ _ rfl ((hown1.out.alloc _).alloc _) ⟨w1.heap.size + 1, 0, none⟩ 1 1 (tokCells ⟨kd, tx, nn, pl⟩) rfl rfl ?c1 ?c2 ?c3 ?c4 ?c5 ?_))
          case c1 => exact cells_new _ _ _ _ (by simp)
          case c2 => exact tok_one _
          case c3 => unfold maxLen; omega
          case c4 => omega
          case c5 => have := HB.out.size; simp; omega
          intro v' w2 hown2 hgrow _
          have hne2 : some w1.heap.size ≠ u5.ownBlock := fun e => by have := (hlt2.out _ e.symm).2; omega
          have hc1 : w2.cell? ⟨w1.heap.size, 1, none⟩ = some (.string ⟨tx.toArray⟩) := hgrow.cell (by simp [go_sem]) hne2
          have HB2 : Hid (Below w.heap.size w w2) := ((HB.out.alloc HB.out.size _).alloc (by have := HB.out.size; simp; omega) _).grown hgrow (by have := HB.out.size; simp; omega) (fun k hk => (hlt2.out k hk).1)
          have HO2 := Lib.hid hown2
          clear hown2 hgrow hne2
          go_wp2_with fail
          refine (HSKQ.out _).mono ?_
          rintro e w3 ⟨k3, rfl, hk3, hdr, rfl⟩
          have HS3 : Hid (ScanAt l (done ++ [⟨kd, tx, nn, pl⟩]) (l.drop k3)) := by rw [hdr]; exact HST.out
          have HK3 : Hid (k < k3) := by
            have h1 := Lx.pass_len (l.drop q)
            rw [← hdr, List.length_drop, List.length_drop] at h1
            unfold RowKit.Hid
            omega
          clear hdr
          go_wp2_with fail
          go_roundw
          case rel =>
            refine ⟨done ++ [⟨kd, tx, nn, pl⟩], k3, rfl, hk3, HS3, by simp; omega, ?_, HB2.out⟩
            have := HO2.out
            rw [← toksCells_snoc] at this
            have h2 : (done ++ [(⟨kd, tx, nn, pl⟩ : Lx.Tok)]).length = done.length + 1 := by simp
            rw [h2]
            exact this
          case measure =>
            have := HK3.out
            simp [intOf]
            omega
        · have hbd := HS.out.bad hne0 he
          rw [hkl] at hbd
          have HF := Lib.hid hbd
          have heb : ((Lx.next (l.drop k)).2 != 0) = true := by rw [bne_iff_ne]; exact he
          clear he hbd hkl hne0
          generalize hee : (Lx.next (l.drop k)).2 = ee at *
          have HEE := Lib.hid hee
          clear hee
          go_wp2_with fail
          refine (HONE.out _).mono ?_
          rintro e w1 ⟨⟨kd, tx, nn, pl⟩, rfl, -, hb1⟩
          rw [HEE.out]
          unfold tokAgg
          have HB := Lib.hid (hb.trans (hb1.mono hb.size))
          clear hb1
          go_wp2_with fail
          go_ret3
          exact scanGives_mk (hs.out.trans HF.out) (World.ownsRow_nil _ _ _ _) (HB.out.alloc HB.out.size _)
      · have hf := HS.out
        rw [List.drop_eq_nil_of_le (by omega)] at hf
        have HF := Lib.hid hf.fin
        clear hf
        go_wp2_with fail
        go_ret3
        exact scanGives_mk (hs.out.trans HF.out) HO.out hb
end Go.Proofs.Ytilkilffkjhhbaa
