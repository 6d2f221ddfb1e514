/-
  The walk of the law ImageTrusts: whatever is opened under a key ends with the tag of what is ahead of it, and its codes are accepted.
-/
import Derived.Test.YtjhopgmionpkoaaImageTrustsR
import Derived.Test.YtjhopgmionpkoaaImageOnlyW
namespace Go.Proofs.Ytjhopgmionpkoaa
set_option maxRecDepth 20000
open Go.RowKit Mem

theorem imOpen_fine {k b : Ia.Bs} {m : Im} (h : imOpen k b = (m, 0)) : ∃ n, b.length = n + 32 ∧ b.length ≤ 2048 ∧ b.drop n = tagOf k (b.take n) ∧ imParse (b.take n) = (m, 0) := by
  unfold imOpen at h
  by_cases h1 : 2048 < b.length
  · rw [if_pos h1] at h; cases h
  · rw [if_neg h1] at h
    by_cases h2 : b.length < 32
    · rw [if_pos h2] at h; cases h
    · rw [if_neg h2] at h
      by_cases h3 : (b.drop (b.length - 32) == tagOf k (b.take (b.length - 32))) = true
      · rw [if_pos h3] at h
        exact ⟨b.length - 32, by omega, by omega, by simpa using h3, h⟩
      · rw [if_neg h3] at h; cases h
theorem imOpen_wrong {k b : Ia.Bs} {m : Im} {er : Int} (h : imOpen k b = (m, er)) (he : er ≠ 0) : m = Im.zero := by
  unfold imOpen at h
  by_cases h1 : 2048 < b.length
  · rw [if_pos h1] at h; injection h with h _; exact h.symm
  · rw [if_neg h1] at h
    by_cases h2 : b.length < 32
    · rw [if_pos h2] at h; injection h with h _; exact h.symm
    · rw [if_neg h2] at h
      by_cases h3 : (b.drop (b.length - 32) == tagOf k (b.take (b.length - 32))) = true
      · rw [if_pos h3] at h; exact imParse_wrong h he
      · rw [if_neg h3] at h; injection h with h _; exact h.symm
set_option maxRecDepth 100000 in
set_option maxHeartbeats 8000000 in
theorem imageTrusts_walk (w : World) (A : Option Addr) (c : Nat) (b : List UInt8) (hb : BSrc w A c b ∧ b.length ≤ c ∧ c ≤ 140737488351232) (A' : Option Addr) (c' : Nat) (k : List UInt8) (hk : BSrc w A' c' k ∧ k.length ≤ c' ∧ c' ≤ 140737488351232) :
    Calls Try.prog 6 #[.slice A b.length c, .slice A' k.length c'] w fun e w' => e = .returned (.bool true) ∧ Below w.heap.size w w' := by
  obtain ⟨hB, hbc, hbm⟩ := hb
  obtain ⟨hK, hkc, hkm⟩ := hk
  have HB := Lib.hid hB
  have HK := Lib.hid hK
  clear hB hK
  by_cases hbig : 16384 < k.length
  · go_enter Try.func6, Try.ntmps6
    go_wp2_with fail
    refine (imknown _).mono ?_
    rintro e w1 ⟨rfl, hb1⟩
    go_wp2_with fail
    go_ret
    exact ⟨rfl, hb1⟩
  · by_cases hbb : 10000 < b.length
    · go_enter Try.func6, Try.ntmps6
      go_wp2_with fail
      refine (imknown _).mono ?_
      rintro e w1 ⟨rfl, hb1⟩
      go_wp2_with fail
      go_ret
      exact ⟨rfl, hb1⟩
    · obtain ⟨m, er, hp⟩ : ∃ m er, imOpen k b = (m, er) := ⟨_, _, rfl⟩
      have hpp := imopen b k A c A' c' w HB.out hbc HK.out hkc (by omega) hkm
      rw [hp] at hpp
      have HPP := Lib.hid hpp
      have HP := Lib.hid hp
      clear hpp hp
      go_enter Try.func6, Try.ntmps6
      go_wp2_with fail
      refine HPP.out.mono ?_
      rintro e w2 ⟨A1, A2, A3, c1, c2, c3, rfl, hnew, hb2⟩
      have HM := Lib.hid hnew
      have HB2 := Lib.hid hb2
      have hz2 := hb2.size
      clear hnew hb2 HPP
      dsimp only
      unfold imAgg
      go_upto_region 6 with fail
      obtain ⟨W2, hW2⟩ : ∃ W, W = w2.alloc (.cells #[.int .u32 m.ver, .int .u32 m.frm, .int .i64 m.el, .int .i64 m.fr.sl, .int .i64 m.fr.ol, .int .i64 m.fr.nw, .int .i64 m.fr.is, .int .i64 m.fr.os, .slice A1 m.first.length c1, .slice A2 m.step.length c2, .slice A3 m.move.length c3, .int .i64 m.sf, .int .i64 m.mf] 28) := ⟨_, rfl⟩
      rw [← hW2]
      have HR2 : Hid (W2.heap[w2.heap.size]? = some (.cells #[.int .u32 m.ver, .int .u32 m.frm, .int .i64 m.el, .int .i64 m.fr.sl, .int .i64 m.fr.ol, .int .i64 m.fr.nw, .int .i64 m.fr.is, .int .i64 m.fr.os, .slice A1 m.first.length c1, .slice A2 m.step.length c2, .slice A3 m.move.length c3, .int .i64 m.sf, .int .i64 m.mf] 28 (0, 0))) := by unfold RowKit.Hid; rw [hW2]; exact heap_alloc_new _ _
      have HB12 : Hid (Below w.heap.size w W2) := by unfold RowKit.Hid; rw [hW2]; exact HB2.out.alloc hz2 _
      have HM2 : Hid (ImNew w.heap.size W2 m A1 A2 A3 c1 c2 c3) := by unfold RowKit.Hid; rw [hW2]; exact HM.out.below ((Below.refl _ _).alloc (Nat.le_refl _) _)
      have hzW2 : w2.heap.size < W2.heap.size := by rw [hW2]; simp
      clear hW2 HM HB2
      by_cases her : er = 0
      · subst her
        obtain ⟨n, hn, hn48, htag, hpa⟩ := imOpen_fine HP.out
        obtain ⟨hen, hck, hlen, hok⟩ := imParse_fine hpa
        have hcg := chk_good hck
        have hlt := hcg.1.2.1
        have hs1 := hcg.2.2.2.1
        have hs2 := hcg.2.2.2.2
        clear hcg hen
        obtain ⟨hs1a, hs1b⟩ := bnd_good hs1
        obtain ⟨hs2a, hs2b⟩ := bnd_good hs2
        have hJ1 : ∀ W, InsAt W A2 m.step → Calls Try.prog 23 #[.slice A2 m.step.length c2, .agg #[.int .i64 m.fr.sl, .int .i64 m.fr.ol, .int .i64 m.fr.nw, .int .i64 m.fr.is, .int .i64 m.fr.os]] W fun e w' => ∃ dp at_, e = .returned (.tuple #[.agg #[.int .i64 dp, .int .i64 m.sf], .int .i64 0, .int .i64 at_]) ∧ Below W.heap.size W w' := fun W h => (jcheck m.fr m.step A2 c2 W h (by have := hlen.step; omega) (ins_range hok.step)).mono fun e w' ⟨r, hr, he, hb⟩ => by subst hr; exact ⟨_, _, by rw [he, hs1a, hs1b], hb⟩
        have hJ2 : ∀ W, InsAt W A3 m.move → Calls Try.prog 23 #[.slice A3 m.move.length c3, .agg #[.int .i64 0, .int .i64 m.el, .int .i64 m.fr.nw, .int .i64 0, .int .i64 0]] W fun e w' => ∃ dp at_, e = .returned (.tuple #[.agg #[.int .i64 dp, .int .i64 m.mf], .int .i64 0, .int .i64 at_]) ∧ Below W.heap.size W w' := fun W h => (jcheck (mvFr m) m.move A3 c3 W h (by have := hlen.move; omega) (ins_range hok.move)).mono fun e w' ⟨r, hr, he, hb⟩ => by subst hr; exact ⟨_, _, by rw [he, hs2a, hs2b], hb⟩
        obtain ⟨B1, B2, hc1, hc2, hsl1, hsl2⟩ := open_cuts HB.out hbc n hn
        have hl1 : (b.take n).length = n := by rw [List.length_take]; omega
        have HTG : Hid (∀ W, Below w.heap.size w W → Calls Try.prog 22 #[.slice A' k.length c', .slice A n c] W fun e w' => e = .returned (.agg (bcells (tagOf k (b.take n))).toArray) ∧ Below W.heap.size W w') := fun W h => by
          have hq : BSrc W A c (b.take n) := by unfold BSrc; rw [hl1]; exact BSrc.pre (HB.out.below h (Nat.le_refl _)) n (by omega) (by omega)
          have := mactag k (b.take n) A' A c' c W (HK.out.below h (Nat.le_refl _)) hkc (by omega) (by omega) hq (by rw [hl1]; omega)
          rw [hl1] at this
          exact this
        have HL := Lib.hid (tagOf_len k (b.take n))
        have hc2 := hc2.at_
        rw [htag] at hc2
        generalize tagOf k (b.take n) = T at *
        have HC2 := Lib.hid hc2
        rw [hn] at hsl2
        have HSL2 := Lib.hid hsl2
        clear hsl1
        have HJ1 := Lib.hid hJ1
        have HJ2 := Lib.hid hJ2
        have HLT := Lib.hid hlt
        have hbl : (b.length : Int) - 32 = (n : Int) := by omega
        have hi32 : (Try.prog.info? 44).map (·.size) = some 32 := by kernel_rfl
        have HI32 := Lib.hid hi32
        have HSP : Hid ((bcells T).toArray.size = 32) := by unfold RowKit.Hid; rw [List.size_toArray, bcells_length, HL.out]
        have HONE := Lib.hid (cells_one32 T)
        clear hJ1 hJ2 hlt hc1 hc2 hsl2 hl1 hs1 hs2 hs1a hs1b hs2a hs2b hck hlen hok hpa htag hi32 HP
        go_wp2_with fail
        refine (HTG.out _ HB12.out).mono ?_
        rintro e w3 ⟨rfl, hb3⟩
        have HB13 := Lib.hid (HB12.out.trans (hb3.mono HB12.out.size))
        have HR3 := Lib.hid ((hb3.block _ hzW2).trans HR2.out)
        have HM3 := Lib.hid (HM2.out.below hb3)
        have hz3 := hb3.size
        clear hb3 HR2 HM2 HTG HB12
        go_upto_region 12 with (refine wpList_store_row rfl 44 (.tmp 8) (.tmp 46) rfl w3.heap.size (bcells T).toArray rfl rfl _ _ (heap_alloc_new _ _) (by rw [HI32.out, HSP.out]) (by rw [HSP.out]; rfl) HONE.out ?_)
        clear hn hbl hn48
        obtain ⟨W3, hW3⟩ : ∃ W, W = (w3.alloc (.cells (Array.replicate 32 (.int .u8 0)) 44)).setRow w3.heap.size (bcells T).toArray := ⟨_, rfl⟩
        have HT3 : Hid (W3.heap[w3.heap.size]? = some (.cells (bcells T).toArray 44 (0, 0))) := by unfold RowKit.Hid; rw [hW3]; exact setRow_heap _ _ _ _ _ _ (heap_alloc_new _ _)
        have hx3 : Below w3.heap.size w3 W3 := by rw [hW3]; exact below_setRow_ ((Below.refl _ _).alloc (Nat.le_refl _) _) (Nat.le_refl _)
        have hzW3 : w3.heap.size < W3.heap.size := (Array.getElem?_eq_some_iff.1 HT3.out).1
        have HR4 := Lib.hid ((hx3.block _ (by omega)).trans HR3.out)
        have HM4 := Lib.hid (HM3.out.below hx3)
        have HB14 := Lib.hid (HB13.out.trans (hx3.mono HB13.out.size))
        refine wp_congr_world (W1 := W3) hW3 ?_
        clear hW3 hx3 HR3 HM3 HB13
        have ca0 : W3.cell? ⟨w2.heap.size, 0, none⟩ = some (.int .u32 m.ver) := cell_of_row _ _ 0 _ _ (0, 0) HR4.out
        have ca1 : W3.cell? ⟨w2.heap.size, 1, none⟩ = some (.int .u32 m.frm) := cell_of_row _ _ 1 _ _ (0, 0) HR4.out
        have ca2 : W3.cell? ⟨w2.heap.size, 2, none⟩ = some (.int .i64 m.el) := cell_of_row _ _ 2 _ _ (0, 0) HR4.out
        have ca3 : W3.cell? ⟨w2.heap.size, 3, none⟩ = some (.int .i64 m.fr.sl) := cell_of_row _ _ 3 _ _ (0, 0) HR4.out
        have ca4 : W3.cell? ⟨w2.heap.size, 4, none⟩ = some (.int .i64 m.fr.ol) := cell_of_row _ _ 4 _ _ (0, 0) HR4.out
        have ca5 : W3.cell? ⟨w2.heap.size, 5, none⟩ = some (.int .i64 m.fr.nw) := cell_of_row _ _ 5 _ _ (0, 0) HR4.out
        have ca6 : W3.cell? ⟨w2.heap.size, 6, none⟩ = some (.int .i64 m.fr.is) := cell_of_row _ _ 6 _ _ (0, 0) HR4.out
        have ca7 : W3.cell? ⟨w2.heap.size, 7, none⟩ = some (.int .i64 m.fr.os) := cell_of_row _ _ 7 _ _ (0, 0) HR4.out
        have ca8 : W3.cell? ⟨w2.heap.size, 8, none⟩ = some (.slice A1 m.first.length c1) := cell_of_row _ _ 8 _ _ (0, 0) HR4.out
        have ca9 : W3.cell? ⟨w2.heap.size, 9, none⟩ = some (.slice A2 m.step.length c2) := cell_of_row _ _ 9 _ _ (0, 0) HR4.out
        have ca10 : W3.cell? ⟨w2.heap.size, 10, none⟩ = some (.slice A3 m.move.length c3) := cell_of_row _ _ 10 _ _ (0, 0) HR4.out
        have ca11 : W3.cell? ⟨w2.heap.size, 11, none⟩ = some (.int .i64 m.sf) := cell_of_row _ _ 11 _ _ (0, 0) HR4.out
        have ca12 : W3.cell? ⟨w2.heap.size, 12, none⟩ = some (.int .i64 m.mf) := cell_of_row _ _ 12 _ _ (0, 0) HR4.out
        go_wp2_with fail
        clear ca0 ca1 ca2 ca3 ca4 ca5 ca6 ca7 ca8 ca9 ca10 ca11 ca12
        refine (HJ1.out _ HM4.out.at_.step.at_).mono ?_
        rintro e w5 ⟨dp1, at1, rfl, hb5⟩
        have HT5 := Lib.hid ((hb5.block _ hzW3).trans HT3.out)
        have HR5 := Lib.hid ((hb5.block _ (by omega)).trans HR4.out)
        have HM5 := Lib.hid (HM4.out.below hb5)
        have HB15 := Lib.hid (HB14.out.trans (hb5.mono HB14.out.size))
        have hz5 := hb5.size
        clear hb5 HT3 HR4 HM4 HB14 HJ1
        go_upto_region 13 with fail
        obtain ⟨W5, hW5⟩ : ∃ W, W = w5.alloc (.cells #[.int .i64 dp1, .int .i64 m.sf] 47) := ⟨_, rfl⟩
        rw [← hW5]
        have HU5 : Hid (W5.heap[w5.heap.size]? = some (.cells #[.int .i64 dp1, .int .i64 m.sf] 47 (0, 0))) := by unfold RowKit.Hid; rw [hW5]; exact heap_alloc_new _ _
        have hx5 : Below w5.heap.size w5 W5 := by rw [hW5]; exact (Below.refl _ _).alloc (Nat.le_refl _) _
        have hzW5 : w5.heap.size < W5.heap.size := by rw [hW5]; simp
        have HT6 := Lib.hid ((hx5.block _ (by omega)).trans HT5.out)
        have HR6 := Lib.hid ((hx5.block _ (by omega)).trans HR5.out)
        have HM6 := Lib.hid (HM5.out.below hx5)
        have HB16 := Lib.hid (HB15.out.trans (hx5.mono HB15.out.size))
        clear hW5 hx5 HT5 HR5 HM5 HB15
        have ca0 : W5.cell? ⟨w2.heap.size, 0, none⟩ = some (.int .u32 m.ver) := cell_of_row _ _ 0 _ _ (0, 0) HR6.out
        have ca1 : W5.cell? ⟨w2.heap.size, 1, none⟩ = some (.int .u32 m.frm) := cell_of_row _ _ 1 _ _ (0, 0) HR6.out
        have ca2 : W5.cell? ⟨w2.heap.size, 2, none⟩ = some (.int .i64 m.el) := cell_of_row _ _ 2 _ _ (0, 0) HR6.out
        have ca3 : W5.cell? ⟨w2.heap.size, 3, none⟩ = some (.int .i64 m.fr.sl) := cell_of_row _ _ 3 _ _ (0, 0) HR6.out
        have ca4 : W5.cell? ⟨w2.heap.size, 4, none⟩ = some (.int .i64 m.fr.ol) := cell_of_row _ _ 4 _ _ (0, 0) HR6.out
        have ca5 : W5.cell? ⟨w2.heap.size, 5, none⟩ = some (.int .i64 m.fr.nw) := cell_of_row _ _ 5 _ _ (0, 0) HR6.out
        have ca6 : W5.cell? ⟨w2.heap.size, 6, none⟩ = some (.int .i64 m.fr.is) := cell_of_row _ _ 6 _ _ (0, 0) HR6.out
        have ca7 : W5.cell? ⟨w2.heap.size, 7, none⟩ = some (.int .i64 m.fr.os) := cell_of_row _ _ 7 _ _ (0, 0) HR6.out
        have ca8 : W5.cell? ⟨w2.heap.size, 8, none⟩ = some (.slice A1 m.first.length c1) := cell_of_row _ _ 8 _ _ (0, 0) HR6.out
        have ca9 : W5.cell? ⟨w2.heap.size, 9, none⟩ = some (.slice A2 m.step.length c2) := cell_of_row _ _ 9 _ _ (0, 0) HR6.out
        have ca10 : W5.cell? ⟨w2.heap.size, 10, none⟩ = some (.slice A3 m.move.length c3) := cell_of_row _ _ 10 _ _ (0, 0) HR6.out
        have ca11 : W5.cell? ⟨w2.heap.size, 11, none⟩ = some (.int .i64 m.sf) := cell_of_row _ _ 11 _ _ (0, 0) HR6.out
        have ca12 : W5.cell? ⟨w2.heap.size, 12, none⟩ = some (.int .i64 m.mf) := cell_of_row _ _ 12 _ _ (0, 0) HR6.out
        go_wp2_with fail
        clear ca0 ca1 ca2 ca3 ca4 ca5 ca6 ca7 ca8 ca9 ca10 ca11 ca12
        refine (HJ2.out _ HM6.out.at_.move.at_).mono ?_
        rintro e w7 ⟨dp2, at2, rfl, hb7⟩
        have HU7 := Lib.hid ((hb7.block _ hzW5).trans HU5.out)
        have HT7 := Lib.hid ((hb7.block _ (by omega)).trans HT6.out)
        have HR7 := Lib.hid ((hb7.block _ (by omega)).trans HR6.out)
        have HB17 := Lib.hid (HB16.out.trans (hb7.mono HB16.out.size))
        have hz7 := hb7.size
        clear hb7 HU5 HT6 HR6 HM6 HB16 HJ2
        go_upto_region 14 with fail
        obtain ⟨W7, hW7⟩ : ∃ W, W = w7.alloc (.cells #[.int .i64 dp2, .int .i64 m.mf] 47) := ⟨_, rfl⟩
        rw [← hW7]
        have HV8 : Hid (W7.heap[w7.heap.size]? = some (.cells #[.int .i64 dp2, .int .i64 m.mf] 47 (0, 0))) := by unfold RowKit.Hid; rw [hW7]; exact heap_alloc_new _ _
        have hx7 : Below w7.heap.size w7 W7 := by rw [hW7]; exact (Below.refl _ _).alloc (Nat.le_refl _) _
        have HU8 := Lib.hid ((hx7.block _ (by omega)).trans HU7.out)
        have HT8 := Lib.hid ((hx7.block _ (by omega)).trans HT7.out)
        have HR8 := Lib.hid ((hx7.block _ (by omega)).trans HR7.out)
        have HB18 := Lib.hid (HB17.out.trans (hx7.mono HB17.out.size))
        clear hW7 hx7 HU7 HT7 HR7 HB17
        refine wp_region_any (by kernel_rfl) ?_
        refine wpAny_by (ops' := itruOps) (by kernel_rfl) ?_
        refine itruRegion _ W7 ?hs m A1 A2 A3 A B2 c1 c2 c3 c (c - n) w2.heap.size w3.heap.size w5.heap.size w7.heap.size n (n + 32) T dp1 dp2 HL.out HR8.out HT8.out HU8.out HV8.out HSL2.out (HC2.out.below HB18.out (Nat.le_refl _)) HLT.out rfl rfl rfl rfl rfl rfl rfl rfl ?_
        case hs => simp
        intro w9 hb9
        simp only [itruSlots, List.foldl_cons, List.foldl_nil]
        simp only [itruVal]
        simp only [Act.put, List.setIfInBounds_toArray, List.set_cons_zero, List.set_cons_succ]
        have HB19 := Lib.hid (HB18.out.trans (hb9.mono HB18.out.size))
        clear hb9
        go_wp2_with fail
        go_ret
        exact ⟨rfl, HB19.out⟩
      · obtain rfl := imOpen_wrong HP.out her
        have HS : Hid (∀ W, ImAt W Im.zero A1 A2 A3 c1 c2 c3 → ImAt W Im.zero none none none 0 0 0 → Calls Try.prog 18 #[.agg #[.int .u32 0, .int .u32 0, .int .i64 0, .int .i64 0, .int .i64 0, .int .i64 0, .int .i64 0, .int .i64 0, .slice A1 0 c1, .slice A2 0 c2, .slice A3 0 c3, .int .i64 0, .int .i64 0], .agg #[.int .u32 0, .int .u32 0, .int .i64 0, .int .i64 0, .int .i64 0, .int .i64 0, .int .i64 0, .int .i64 0, .slice none 0 0, .slice none 0 0, .slice none 0 0, .int .i64 0, .int .i64 0]] W fun e w' => e = .returned (.bool true) ∧ Below W.heap.size W w') :=
          fun W h h' => refimsame Im.zero A1 A2 A3 none none none c1 c2 c3 0 0 0 W h h' ⟨Nat.zero_le _, Nat.zero_le _, Nat.zero_le _⟩
        have HR2z : Hid (W2.heap[w2.heap.size]? = some (.cells #[.int .u32 0, .int .u32 0, .int .i64 0, .int .i64 0, .int .i64 0, .int .i64 0, .int .i64 0, .int .i64 0, .slice A1 0 c1, .slice A2 0 c2, .slice A3 0 c3, .int .i64 0, .int .i64 0] 28 (0, 0))) := HR2.out
        clear HR2
        have be : (er == 0) = false := by simpa using her
        have be2 : (er != 0) = true := by simpa using her
        go_wp2_with (refine wpList_load_row rfl 28 (.tmp 5) rfl w2.heap.size rfl _ _ _ _ HR2z.out Try.underlying28 rfl infoImS ?_)
        refine (HS.out _ HM2.out.at_ (imAt_nil _ _ rfl rfl rfl)).mono ?_
        rintro e w3 ⟨rfl, hb3⟩
        have HB13 := Lib.hid (HB12.out.trans (hb3.mono HB12.out.size))
        clear hb3
        go_wp2_with fail
        refine (imknown _).mono ?_
        rintro e w5 ⟨rfl, hb5⟩
        have HB15 := Lib.hid (HB13.out.trans (hb5.mono HB13.out.size))
        clear hb5
        go_wp2_with fail
        go_ret
        exact ⟨rfl, HB15.out⟩
end Go.Proofs.Ytjhopgmionpkoaa
