/-
  Instructions in memory behind a store into another block.
  The second check of the reference's Check, whatever the order.
  What is wrong of an image, by the reference.
-/
import Derived.Test.YtjhopgmionpkoaaIm1
import Derived.Test.YtjhopgmionpkoaaRgn
import Derived.Test.YtjhopgmionpkoaaCells
import Derived.Test.YtjhopgmionpkoaaJuS
import Derived.Test.YtjhopgmionpkoaaJu1
namespace Go.Proofs.Ytjhopgmionpkoaa
set_option maxRecDepth 20000
open Go.RowKit Mem

theorem ins_grown {w w' : World} {A : Option Addr} {l : List Ia.Ins} {gr : Nat} (h : InsAt w A l) (hg : w.grownBy w' (some gr)) (hne : ∀ k (_ : k < l.length), ∃ b off, A = some ⟨b, off, none⟩ ∧ b ≠ gr) : InsAt w' A l := by
  intro k hk
  obtain ⟨b, off, e, h0, h1⟩ := h k hk
  obtain ⟨b', off', e', hn⟩ := hne k hk
  rw [e] at e'
  simp only [Option.some.injEq, Addr.mk.injEq, and_true] at e'
  obtain ⟨rfl, rfl⟩ := e'
  have hlt := World.block_lt_of_cell? _ _ h0
  refine ⟨b, off, e, ?_, ?_⟩
  · rw [World.grownBy.cell_far hg ⟨b, off + k * 2, none⟩ hlt (by simpa using hn)]; exact h0
  · rw [World.grownBy.cell_far hg ⟨b, off + k * 2 + 1, none⟩ hlt (by simpa using hn)]; exact h1
theorem ins_blocks {w : World} {A : Option Addr} {l : List Ia.Ins} {gr : Nat} (h : InsAt w A l) (hg : w.heap.size ≤ gr) : ∀ k (_ : k < l.length), ∃ b off, A = some ⟨b, off, none⟩ ∧ b ≠ gr := by
  intro k hk
  obtain ⟨b, off, e, h0, _⟩ := h k hk
  have hlt := World.block_lt_of_cell? _ _ h0
  exact ⟨b, off, e, by dsimp only at hlt; omega⟩
end Go.Proofs.Ytjhopgmionpkoaa
namespace Go.Proofs.Ytjhopgmionpkoaa
set_option maxRecDepth 20000
open Go.RowKit Mem

set_option linter.unusedVariables false
noncomputable def rickOps : Array Oper := findOps 12 ((Try.f14).body.getD (.exit 0))
def rickSlots : List (Nat × Nat) := [(0, 77), (1, 78), (2, 79), (3, 80), (4, 81), (5, 76), (6, 82), (7, 83), (8, 84), (10, 4)]
def rickVal (m : Im) (A1 A2 A3 : Option Addr) (c1 c2 c3 g : Nat) (r : Ju.Res) : Nat → Value
  | 0 => .pointer (some ⟨g, 10, none⟩)
  | 1 => .slice A3 m.move.length c3
  | 2 => imAgg m A1 A2 A3 c1 c2 c3
  | 3 => frAgg (mvFr m)
  | 4 => .tuple #[.agg #[.int .i64 r.dp, .int .i64 r.fu], .int .i64 r.er, .int .i64 r.at_]
  | 5 => .tuple #[.agg #[.int .i64 r.dp, .int .i64 r.fu], .int .i64 r.er, .int .i64 r.at_]
  | 6 => .agg #[.int .i64 r.dp, .int .i64 r.fu]
  | 7 => .int .i64 r.er
  | 8 => .int .i64 r.at_
  | _ => .int .i64 r.er
theorem rickRegion {Q : Exit → Act → World → Prop} (a0 : Act) (W0 : World) (hs : 84 < a0.tmps.size) (m : Im) (A1 A2 A3 : Option Addr) (c1 c2 c3 g gr : Nat) (r : Ju.Res) (hne : g ≠ gr) (hgr : ∀ k (h : k < m.move.length), ∃ b off, A3 = some ⟨b, off, none⟩ ∧ b ≠ gr) (hA : InsAt W0 A3 m.move) (hn : m.move.length ≤ 4611686018427387904) (hr : ∀ k (h : k < m.move.length), -2147483648 ≤ (m.move[k]'h).n ∧ (m.move[k]'h).n ≤ 2147483647) (hrr : r = Ju.check (mvFr m) m.move) (hg : W0.heap[g]? = some (.cells #[.int .u32 m.ver, .int .u32 m.frm, .int .i64 m.el, .int .i64 m.fr.sl, .int .i64 m.fr.ol, .int .i64 m.fr.nw, .int .i64 m.fr.is, .int .i64 m.fr.os, .slice A1 m.first.length c1, .slice A2 m.step.length c2, .slice A3 m.move.length c3, .int .i64 m.sf, .int .i64 m.mf] 28 (0, 0))) (hrow : ∃ Z : Array Value, W0.heap[gr]? = some (.cells Z 58 (0, 0)) ∧ Z.size = 2)
    (e1 : a0.eval (.tmp 1) = .pointer (some ⟨g, 0, none⟩))
    (e3 : a0.eval (.tmp 3) = .pointer (some ⟨gr, 0, none⟩))
    (hQ : ∀ w, W0.grownBy w (some gr) → w.heap[gr]? = some (.cells #[.int .i64 r.dp, .int .i64 r.fu] 58 (0, 0)) → Q .normal (rickSlots.foldl (fun x p => x.put (some p.2) ((rickVal m A1 A2 A3 c1 c2 c3 g r) p.1)) a0) w) :
    wpAny Try.prog .any rickOps Q 11 (Array.replicate 11 false) a0 W0.drew := by
  have ok : slotsFix rickSlots a0.tmps.size = true := by
    have : ∀ z, 84 < z → slotsFix rickSlots z = true := by
      intro z hz
      simp [slotsFix, rickSlots]
      omega
    exact this _ hs
  have lg : g < W0.heap.size := (Array.getElem?_eq_some_iff.1 hg).1
  have hi58 : (Try.prog.info? 58).map (·.size) = some 2 := by kernel_rfl
  have hV1 : (#[.int .i64 r.dp, .int .i64 r.fu] : Array Value).all (·.oneCell') = true := by simp [Value.oneCell']
  refine region_put (by kernel_rfl) W0 a0 rickSlots (rickVal m A1 A2 A3 c1 c2 c3 g r) gr 9 6 82 3 58 58 #[.int .i64 r.dp, .int .i64 r.fu] ok (by kernel_rfl) (by kernel_rfl) 11 (by kernel_rfl) (by decide) ⟨_, rfl, rfl, rfl, rfl⟩ (by decide) rfl e3 rfl (by rw [hi58]; rfl) hV1 hrow (by kernel_rfl) ?_ hQ
  intro i L a w h hi hn2 hneed
  rcases (show i = 0 ∨ i = 1 ∨ i = 2 ∨ i = 3 ∨ i = 4 ∨ i = 5 ∨ i = 6 ∨ i = 7 ∨ i = 8 ∨ i = 10 by omega) with rfl | rfl | rfl | rfl | rfl | rfl | rfl | rfl | rfl | rfl
  · exact fix_value (i := 0) (d := 77) rfl (wanted_none rfl) rfl (by decide) (x_field rfl ((h.old rfl).trans e1) (by simp [go_sem]))
  · exact fix_value (i := 1) (d := 78) rfl (wanted_none rfl) rfl (by decide) (x_load rfl (h.get 0 77 (by decide) (hneed 0 (by kernel_rfl))) (by have hh := other_by h.grown hne hg; have hh0 : w.cell? ⟨g, 10, none⟩ = some _ := cell_of_row w g 10 _ _ (0, 0) hh; simp [go_sem, hh0]; rfl))
  · exact fix_value (i := 2) (d := 79) rfl (wanted_none rfl) rfl (by decide) (x_load_row (cs := imCells m A1 A2 A3 c1 c2 c3) (n := 13) rfl ((h.old rfl).trans e1) (other_by h.grown hne hg) Try.underlying28 rfl (by kernel_rfl) rfl)
  · refine fix_call (i := 3) (d := 80) 32 Try.f32 #[.tmp 79] _ #[imAgg m A1 A2 A3 c1 c2 c3] rfl (wanted_none rfl) rfl (by decide) rfl (by simp [(h.get 2 79 (by decide) (hneed 2 (by kernel_rfl))), rickVal]) Try.func32 (by kernel_rfl) (by kernel_rfl) ?_
    exact refmoves m A1 A2 A3 c1 c2 c3 w
  · refine fix_call (i := 4) (d := 81) 31 Try.f31 #[.tmp 78, .tmp 80] _ #[.slice A3 m.move.length c3, frAgg (mvFr m)] rfl (wanted_none rfl) rfl (by decide) rfl (by simp [(h.get 1 78 (by decide) (hneed 1 (by kernel_rfl))), (h.get 3 80 (by decide) (hneed 3 (by kernel_rfl))), rickVal]) Try.func31 (by kernel_rfl) (by kernel_rfl) ?_
    exact (refcheck (mvFr m) m.move A3 c3 w (ins_grown hA h.grown hgr) hn hr).mono (fun e w' ⟨r', h1, h2, h3⟩ => ⟨by rw [h2, h1.trans hrr.symm]; rfl, h3⟩)
  · exact fix_value (i := 5) (d := 76) rfl (wanted_none rfl) rfl (by decide) (x_move rfl (h.get 4 81 (by decide) (hneed 4 (by kernel_rfl))))
  · exact fix_value (i := 6) (d := 82) rfl (wanted_none rfl) rfl (by decide) (x_extract rfl (h.get 5 76 (by decide) (hneed 5 (by kernel_rfl))) rfl)
  · exact fix_value (i := 7) (d := 83) rfl (wanted_none rfl) rfl (by decide) (x_extract rfl (h.get 5 76 (by decide) (hneed 5 (by kernel_rfl))) rfl)
  · exact fix_value (i := 8) (d := 84) rfl (wanted_none rfl) rfl (by decide) (x_extract rfl (h.get 5 76 (by decide) (hneed 5 (by kernel_rfl))) rfl)
  · exact fix_value (i := 10) (d := 4) rfl (wanted_none rfl) rfl (by decide) (x_assign rfl (h.get 7 83 (by decide) (hneed 7 (by kernel_rfl))))
end Go.Proofs.Ytjhopgmionpkoaa
namespace Go.Proofs.Ytjhopgmionpkoaa
set_option maxRecDepth 20000
open Go.RowKit Mem

theorem bnd_of {l : List Ia.Ins} {f : Ju.Fr} {n dp fu er pl : Int} (h : (⟨dp, fu, er, pl⟩ : Ju.Res) = Ju.check f l) : bnd l f n = if er = 0 then (if fu = n then 0 else 14) else er := by unfold bnd; rw [← h]
set_option maxHeartbeats 16000000 in
theorem refimcheck (m : Im) (A1 A2 A3 : Option Addr) (c1 c2 c3 : Nat) (w : World) (hA : ImAt w m A1 A2 A3 c1 c2 c3) (hl : ImLen m) (ho : ImOk m) :
    Calls Try.prog 14 #[imAgg m A1 A2 A3 c1 c2 c3] w (ChkPost m w) := by
  have HS := Lib.hid hA.step.at_
  have HM := Lib.hid hA.move.at_
  have HBS := Lib.hid (fun W h => refcheck m.fr m.step A2 c2 W h (by have := hl.step; omega) (ins_range ho.step))
  have HMN := Lib.hid (show m.move.length ≤ 4611686018427387904 by have := hl.move; omega)
  have HMR := Lib.hid (ins_range ho.move)
  have hf := hl.first
  have hmv := hl.move
  have hv := ho.ver
  have hfm := ho.frm
  have HBF : Hid (∀ X, Below w.heap.size w (w.alloc X)) := fun X => (Below.refl _ _).alloc (Nat.le_refl _) X
  clear hA hl ho
  unfold imAgg frAgg at *
  by_cases h1 : m.ver = 0
  · have HE : Hid (1 = chk m) := by unfold RowKit.Hid chk; rw [if_pos (.inl h1)]
    rw [h1]
    clear h1
    go_enter Try.func14, Try.ntmps14
    go_wp2_with fail
    go_ret
    exact ⟨ret_int HE.out.symm, HBF.out _⟩
  have b1 : (m.ver == 0) = false := by simpa using h1
  by_cases h2 : m.ver ≤ m.frm
  · have HE : Hid (1 = chk m) := by unfold RowKit.Hid chk; rw [if_pos (.inr (.inl h2))]
    clear h1
    go_enter Try.func14, Try.ntmps14
    go_wp2_with fail
    go_ret
    exact ⟨ret_int HE.out.symm, HBF.out _⟩
  by_cases h3 : m.el < 0
  · have HE : Hid (1 = chk m) := by unfold RowKit.Hid chk; rw [if_pos (.inr (.inr (.inl h3)))]
    clear h1
    go_enter Try.func14, Try.ntmps14
    go_wp2_with fail
    go_ret
    exact ⟨ret_int HE.out.symm, HBF.out _⟩
  by_cases h4 : 16 < m.el
  · have HE : Hid (1 = chk m) := by unfold RowKit.Hid chk; rw [if_pos (.inr (.inr (.inr h4)))]
    clear h1
    go_enter Try.func14, Try.ntmps14
    go_wp2_with fail
    go_ret
    exact ⟨ret_int HE.out.symm, HBF.out _⟩
  have hx1 : ¬ (m.ver = 0 ∨ m.ver ≤ m.frm ∨ m.el < 0 ∨ 16 < m.el) := by omega
  by_cases h5 : m.fr.ol = m.fr.nw
  case neg =>
    have HE : Hid (1 = chk m) := by unfold RowKit.Hid chk; rw [if_neg hx1, if_pos (.inl h5)]
    have b5 : (m.fr.ol != m.fr.nw) = true := by simpa using h5
    clear h1 h5 hx1
    go_enter Try.func14, Try.ntmps14
    go_wp2_with fail
    go_ret
    exact ⟨ret_int HE.out.symm, HBF.out _⟩
  have b5 : (m.fr.ol != m.fr.nw) = false := by simpa using h5
  by_cases h6 : (m.first.length : Int) = m.fr.nw
  case neg =>
    have HE : Hid (1 = chk m) := by unfold RowKit.Hid chk; rw [if_neg hx1, if_pos (.inr h6)]
    have b6 : ((m.first.length : Int) != m.fr.nw) = true := by simpa using h6
    clear h1 h5 h6 hx1
    go_enter Try.func14, Try.ntmps14
    go_wp2_with fail
    go_ret
    exact ⟨ret_int HE.out.symm, HBF.out _⟩
  have b6 : ((m.first.length : Int) != m.fr.nw) = false := by simpa using h6
  have hx2 : ¬ (m.fr.ol ≠ m.fr.nw ∨ (m.first.length : Int) ≠ m.fr.nw) := by omega
  by_cases h7 : m.frm = 0 ∧ (0 < m.el ∨ 0 < m.move.length)
  · have HE : Hid (1 = chk m) := by unfold RowKit.Hid chk; rw [if_neg hx1, if_neg hx2, if_pos h7]
    have b7 : (m.frm == 0) = true := by simpa using h7.1
    obtain ⟨h71, h72⟩ := h7
    clear h1 h5 h6 hx1 hx2 h71
    by_cases h8 : 0 < m.el
    · have b8 : (m.el != 0) = true := by simp; omega
      clear h72
      go_enter Try.func14, Try.ntmps14
      go_wp2_with fail
      go_ret
      exact ⟨ret_int HE.out.symm, HBF.out _⟩
    · have b8 : (m.el != 0) = false := by simp; omega
      have h9 : 0 < m.move.length := by omega
      have b9 : ((m.move.length : Int) != 0) = true := by rw [bne_iff_ne]; omega
      have b10 : ¬ m.move = [] := fun e => by rw [e] at h9; simp at h9
      clear h72 h9
      go_enter Try.func14, Try.ntmps14
      go_wp2_with fail
      go_ret
      exact ⟨ret_int HE.out.symm, HBF.out _⟩
  have HE : Hid (chk m = if bnd m.step m.fr m.sf ≠ 0 then bnd m.step m.fr m.sf else bnd m.move (mvFr m) m.mf) := by unfold RowKit.Hid chk; rw [if_neg hx1, if_neg hx2, if_neg h7]
  have h9 : (m.frm == 0) = false ∨ ((m.frm == 0) = true ∧ (m.el != 0) = false ∧ ((m.move.length : Int) != 0) = false) := by
    by_cases h : m.frm = 0
    · have hm0 : m.move.length = 0 := by omega
      exact .inr ⟨by simpa using h, by simp; omega, by simp; exact List.eq_nil_of_length_eq_zero hm0⟩
    · exact .inl (by simpa using h)
  clear h1 h5 h6 hx1 hx2 h7
  rcases h9 with b7 | ⟨b7, b8, b9⟩
  all_goals
    go_enter Try.func14, Try.ntmps14
    go_wp2_with fail
    obtain ⟨W0, hW0⟩ : ∃ W0, W0 = w.alloc (.cells #[.int .u32 m.ver, .int .u32 m.frm, .int .i64 m.el, .int .i64 m.fr.sl, .int .i64 m.fr.ol, .int .i64 m.fr.nw, .int .i64 m.fr.is, .int .i64 m.fr.os, .slice A1 m.first.length c1, .slice A2 m.step.length c2, .slice A3 m.move.length c3, .int .i64 m.sf, .int .i64 m.mf] 28) := ⟨_, rfl⟩
    rw [← hW0]
    have HR0 : Hid (W0.heap[w.heap.size]? = some (.cells #[.int .u32 m.ver, .int .u32 m.frm, .int .i64 m.el, .int .i64 m.fr.sl, .int .i64 m.fr.ol, .int .i64 m.fr.nw, .int .i64 m.fr.is, .int .i64 m.fr.os, .slice A1 m.first.length c1, .slice A2 m.step.length c2, .slice A3 m.move.length c3, .int .i64 m.sf, .int .i64 m.mf] 28 (0, 0))) := by unfold RowKit.Hid; rw [hW0]; exact heap_alloc_new _ _
    have HB0 : Hid (Below w.heap.size w W0) := by unfold RowKit.Hid; rw [hW0]; exact HBF.out _
    clear hW0
    refine (HBS.out _ (HS.out.below HB0.out (Nat.le_refl _))).mono ?_
    rintro e w1 ⟨⟨dp, fu, er, pl⟩, hr, rfl, hb1⟩
    have HBN := Lib.hid (bnd_of (n := m.sf) hr)
    have HR1 := Lib.hid ((hb1.block _ (Array.getElem?_eq_some_iff.1 HR0.out).1).trans HR0.out)
    have HB1 := Lib.hid (HB0.out.trans (hb1.mono HB0.out.size))
    have hz1 : w.heap.size < w1.heap.size := (Array.getElem?_eq_some_iff.1 HR1.out).1
    have cf : w1.cell? ⟨w.heap.size, 11, none⟩ = some (.int .i64 m.sf) := cell_of_row _ _ 11 _ _ (0, 0) HR1.out
    clear hb1 HR0 HB0 HBS hr
    dsimp only
    by_cases hz : er = 0
    · subst hz
      by_cases hfu : fu = m.sf
      · have b0 : (m.sf != fu) = false := by rw [hfu]; simp
        have HE2 : Hid (chk m = bnd m.move (mvFr m) m.mf) := by unfold RowKit.Hid; rw [HE.out, HBN.out, if_pos rfl, if_pos hfu, if_neg (by decide)]
        clear HE HBN hfu
        go_wp2_with fail
        obtain ⟨W1, hW1⟩ : ∃ W1, W1 = w1.alloc (.cells #[.int .i64 dp, .int .i64 fu] 58) := ⟨_, rfl⟩
        rw [← hW1]
        have HR2 : Hid (W1.heap[w.heap.size]? = some (.cells #[.int .u32 m.ver, .int .u32 m.frm, .int .i64 m.el, .int .i64 m.fr.sl, .int .i64 m.fr.ol, .int .i64 m.fr.nw, .int .i64 m.fr.is, .int .i64 m.fr.os, .slice A1 m.first.length c1, .slice A2 m.step.length c2, .slice A3 m.move.length c3, .int .i64 m.sf, .int .i64 m.mf] 28 (0, 0))) := by unfold RowKit.Hid; rw [hW1]; exact (heap_alloc_old _ _ hz1).trans HR1.out
        have HP2 : Hid (W1.heap[w1.heap.size]? = some (.cells #[.int .i64 dp, .int .i64 fu] 58 (0, 0))) := by unfold RowKit.Hid; rw [hW1]; exact heap_alloc_new _ _
        have HB2 : Hid (Below w.heap.size w W1) := by unfold RowKit.Hid; rw [hW1]; exact HB1.out.alloc HB1.out.size _
        clear hW1 cf
        obtain ⟨⟨dp2, fu2, er2, pl2⟩, hr2⟩ : ∃ r, r = Ju.check (mvFr m) m.move := ⟨_, rfl⟩
        have HBN := Lib.hid (bnd_of (n := m.mf) hr2)
        have HQ2 := Lib.hid hr2
        clear hr2
        refine wp_region_any (by kernel_rfl) ?_
        refine wpAny_by (ops' := rickOps) (by kernel_rfl) ?_
        refine rickRegion _ W1 ?hs m A1 A2 A3 c1 c2 c3 w.heap.size w1.heap.size ⟨dp2, fu2, er2, pl2⟩ (by omega) (ins_blocks HM.out (by omega)) (HM.out.below HB2.out (Nat.le_refl _)) HMN.out HMR.out HQ2.out HR2.out ⟨_, HP2.out, rfl⟩ rfl rfl ?_
        case hs => simp
        intro w5 hg5 hr5
        have HR5 := Lib.hid (other_by hg5 (show w.heap.size ≠ w1.heap.size by omega) HR2.out)
        have HP5 := Lib.hid hr5
        have HB5 := Lib.hid (HB2.out.trans (below_of_grown hg5 HB2.out.size (fun g e => by injection e with e; omega)))
        clear hg5 hr5 HR2 HP2 HB2
        have cf0 : w5.cell? ⟨w.heap.size, 12, none⟩ = some (.int .i64 m.mf) := cell_of_row _ _ 12 _ _ (0, 0) HR5.out
        have cp1 : w5.cell? ⟨w1.heap.size, 1, none⟩ = some (.int .i64 fu2) := cell_of_row _ _ 1 _ _ (0, 0) HP5.out
        simp only [rickSlots, List.foldl_cons, List.foldl_nil]
        simp only [rickVal]
        simp only [Act.put, List.setIfInBounds_toArray, List.set_cons_zero, List.set_cons_succ]
        by_cases hz2 : er2 = 0
        · subst hz2
          by_cases hfu2 : fu2 = m.mf
          · have HE3 : Hid (0 = chk m) := by unfold RowKit.Hid; rw [HE2.out, HBN.out, if_pos rfl, if_pos hfu2]
            have b0 : (m.mf != fu2) = false := by rw [hfu2]; simp
            clear hfu2
            go_wp2_with fail
            go_ret
            exact ⟨ret_int HE3.out.symm, HB5.out⟩
          · have HE3 : Hid (14 = chk m) := by unfold RowKit.Hid; rw [HE2.out, HBN.out, if_pos rfl, if_neg hfu2]
            have b0 : (m.mf != fu2) = true := by simp; exact fun e => hfu2 e.symm
            clear hfu2
            go_wp2_with fail
            go_ret
            exact ⟨ret_int HE3.out.symm, HB5.out⟩
        · have HE3 : Hid (er2 = chk m) := by unfold RowKit.Hid; rw [HE2.out, HBN.out, if_neg hz2]
          have b0 : (er2 == 0) = false := by simpa using hz2
          have b02 : (er2 != 0) = true := by simpa using hz2
          clear hz2
          go_wp2_with fail
          go_ret
          exact ⟨ret_int HE3.out.symm, HB5.out⟩
      · have b0 : (m.sf != fu) = true := by simp; exact fun e => hfu e.symm
        have HE2 : Hid (14 = chk m) := by unfold RowKit.Hid; rw [HE.out, HBN.out, if_pos rfl, if_neg hfu, if_pos (by decide)]
        clear HE HBN hfu
        go_wp2_with fail
        go_ret
        exact ⟨ret_int HE2.out.symm, HB1.out.alloc HB1.out.size _⟩
    · have HE2 : Hid (er = chk m) := by unfold RowKit.Hid; rw [HE.out, HBN.out, if_neg hz, if_pos hz]
      have bz : (er == 0) = false := by simpa using hz
      have bz2 : (er != 0) = true := by simpa using hz
      clear HE HBN hz
      go_wp2_with fail
      go_ret
      exact ⟨ret_int HE2.out.symm, HB1.out.alloc HB1.out.size _⟩
end Go.Proofs.Ytjhopgmionpkoaa
