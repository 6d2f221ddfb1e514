/-
  The walk of the law MacKeys: a key and zeros behind it tag alike, and a longer key tags as its digest.
-/
import Derived.Test.YtofjfpnkdcpngaaMacKeysR
import Derived.Maps.AppendAt
namespace Go.Proofs.Ytofjfpnkdcpngaa
open Go.RowKit Mem

theorem eq64 (xs ys : List UInt8) (hx : xs.length = 64) (hy : ys.length = 64) (w : World) : (Op.equalIn 10000 25 (.agg (bcells xs).toArray) (.agg (bcells ys).toArray)).run Try.prog w = .ok (xs == ys) w :=
  run_equalIn_bytes (P := Try.prog) w 9998 25 5 64 (by kernel_rfl) (by kernel_rfl) size_of_u8 xs ys hx hy
theorem eql64 (xs ys : List UInt8) (hx : xs.length = 64) (hy : ys.length = 64) (w : World) : (binOp .eql 25 (.agg (bcells xs).toArray) (.agg (bcells ys).toArray)).run Try.prog w = .ok (.bool (xs == ys)) w := by
  rw [run_eql_struct, eq64 xs ys hx hy]; rfl
def padK (k : List UInt8) (j : Nat) : List UInt8 := k ++ List.replicate j 0
theorem padK_len (k : List UInt8) (j : Nat) : (padK k j).length = k.length + j := by
  unfold padK; rw [List.length_append, List.length_replicate]
theorem padK_zero (k : List UInt8) : padK k 0 = k := List.append_nil _
theorem padK_succ (k : List UInt8) (j : Nat) : bcells (padK k (j + 1)) = bcells (padK k j) ++ [.int .u8 0] := by
  unfold padK
  rw [List.replicate_succ', ← List.append_assoc, bcells_append]
  rfl
theorem blockOf_pad (k : List UInt8) (j : Nat) (h : k.length + j ≤ 64) : blockOf (padK k j) = blockOf k := by
  have h1 : keyOf (padK k j) = padK k j := by unfold keyOf; rw [if_pos (by rw [padK_len]; omega)]
  have h2 : keyOf k = k := by unfold keyOf; rw [if_pos (by omega)]
  unfold blockOf
  rw [h1, h2, padK_len]
  unfold padK
  rw [List.append_assoc, List.replicate_append_replicate, show j + (64 - (k.length + j)) = 64 - k.length by omega]
theorem tagOf_pad (k b : List UInt8) (j : Nat) (h : k.length + j ≤ 64) : tagOf (padK k j) b = tagOf k b := by
  unfold tagOf innerOf; rw [blockOf_pad k j h]
theorem blockOf_long (k : List UInt8) (h : 64 < k.length) : blockOf (sumOf k) = blockOf k := by
  have h1 : keyOf k = sumOf k := by unfold keyOf; rw [if_neg (by omega)]
  have h2 : keyOf (sumOf k) = sumOf k := by unfold keyOf; rw [if_pos (by rw [sumOf_len]; omega)]
  unfold blockOf
  rw [h1, h2]
theorem tagOf_long (k b : List UInt8) (h : 64 < k.length) : tagOf (sumOf k) b = tagOf k b := by
  unfold tagOf innerOf; rw [blockOf_long k h]
set_option maxRecDepth 100000 in
set_option maxHeartbeats 4000000 in
theorem macKeys_walk (w : World) (A : Option Addr) (c : Nat) (k : List UInt8) (hA : BArg w A c k) (n : Int) (hn : (Lit.int .u8 n).wf = true) (A' : Option Addr) (c' : Nat) (b : List UInt8) (hA' : BArg w A' c' b) :
    Calls Try.prog 5 #[.slice A k.length c, .int .u8 n, .slice A' b.length c'] w fun e w' => e = .returned (.bool true) ∧ Below w.heap.size w w' := by
  obtain ⟨hA1, hA2, hA3⟩ := hA
  obtain ⟨hM1, hM2, hM3⟩ := hA'
  have hn' : 0 ≤ n ∧ n < 256 := by
    have := hn
    simp [Lit.wf] at this
    have e1 : IntKind.u8.min = 0 := rfl
    have e2 : IntKind.u8.max = 255 := rfl
    omega
  obtain ⟨m, rfl⟩ : ∃ m : Nat, n = (m : Int) := ⟨n.toNat, by omega⟩
  clear hn
  by_cases h1 : k.length ≤ 16384
  · by_cases h2 : b.length ≤ 16384
    · have HA := Lib.hid hA1
      have HM := Lib.hid hM1
      have hi32 : (Try.prog.info? 27).map (·.size) = some 32 := by kernel_rfl
      have HI32 := Lib.hid hi32
      have HTAG := Lib.hid (fun (W : World) (h : BSrc W A c k) (h' : BSrc W A' c' b) => mactag k b A A' c c' W h hA2 (by omega) (by omega) h' (by omega))
      have HTL := Lib.hid (tagOf_len k b)
      clear hA1 hM1 hi32
      by_cases h3 : k.length ≤ 64
      · have HX : Hid (∀ (j : Nat) (A2 : Option Addr) (c2 : Nat) (W : World), k.length + j ≤ 64 → Src W A2 (k.length + j) c2 (bcells (padK k j)) 1 → k.length + j ≤ c2 → c2 ≤ 9223372036854775807 → BSrc W A' c' b → Calls Try.prog 13 #[.slice A2 (k.length + j) c2, .slice A' b.length c'] W fun e w' => e = .returned (.agg (bcells (tagOf k b)).toArray) ∧ Below W.heap.size W w') := fun j A2 c2 W hj hs h4 h5 h' => by
          have hs' : BSrc W A2 c2 (padK k j) := by unfold BSrc; rw [padK_len]; exact hs
          have := mactag (padK k j) b A2 A' c2 c' W hs' (by rw [padK_len]; exact h4) (by rw [padK_len]; omega) h5 h' (by omega)
          rw [padK_len, tagOf_pad k b j hj] at this
          exact this
        have HY : Hid (∀ (j : Nat) (A2 : Option Addr) (c2 : Nat) (W : World), k.length + j ≤ 64 → Src W A2 (k.length + j) c2 (bcells (padK k j)) 1 → k.length + j ≤ c2 → c2 ≤ 9223372036854775807 → Calls Try.prog 11 #[.slice A2 (k.length + j) c2] W fun e w' => e = .returned (.agg (bcells (blockOf k)).toArray) ∧ Below W.heap.size W w') := fun j A2 c2 W hj hs h4 h5 => by
          have hs' : BSrc W A2 c2 (padK k j) := by unfold BSrc; rw [padK_len]; exact hs
          have := macblock (padK k j) A2 c2 W hs' (by rw [padK_len]; exact h4) (by rw [padK_len]; omega) h5
          rw [padK_len, blockOf_pad k j hj] at this
          exact this
        have HBK := Lib.hid (fun (W : World) (h : BSrc W A c k) => macblock k A c W h hA2 (by omega) (by omega))
        have HBL := Lib.hid (blockOf_len k)
        have HP0 := Lib.hid (padK_zero k)
        have HPS := Lib.hid (padK_succ k)
        generalize tagOf k b = T at *
        generalize blockOf k = blk at *
        generalize padK k = pk at *
        have heq : ∀ W, (binOp .eql 27 (.agg (bcells T).toArray) (.agg (bcells T).toArray)).run Try.prog W = .ok (.bool true) W := fun W => by rw [eql32 T T HTL.out HTL.out W]; simp
        have heq2 : ∀ W, (Op.equalIn 10000 27 (.agg (bcells T).toArray) (.agg (bcells T).toArray)).run Try.prog W = .ok true W := fun W => by rw [eq32 T T HTL.out HTL.out W]; simp
        have heq3 : ∀ W, (binOp .eql 25 (.agg (bcells blk).toArray) (.agg (bcells blk).toArray)).run Try.prog W = .ok (.bool true) W := fun W => by rw [eql64 blk blk HBL.out HBL.out W]; simp
        have heq4 : ∀ W, (Op.equalIn 10000 25 (.agg (bcells blk).toArray) (.agg (bcells blk).toArray)).run Try.prog W = .ok true W := fun W => by rw [eq64 blk blk HBL.out HBL.out W]; simp
        have HEQ := Lib.hid heq
        have HEQ2 := Lib.hid heq2
        have HEQ3 := Lib.hid heq3
        have HEQ4 := Lib.hid heq4
        clear heq heq2 heq3 heq4
        obtain ⟨i0, hi, hi0, hi1, hi2⟩ := info_parts infoByte
        have hwm : IntKind.i64.wrap (m : Int) = (m : Int) := IntWalk.i64_in _ (by omega)
        go_enter Try.func5, Try.ntmps5
        go_wp2_with (at_builtin; refine wpList_app_any rfl (.tmp 34) (.tmp 35) 22 rfl w.heap.size 5 i0 (.int .u8 0) 1 1 Try.underlying22 hi hi0 hi1 hi2 rfl (by decide) (.slice none 0 0) 0 [] rfl (World.ownsRow_nil _ _ _ _) A k.length c (bcells k) rfl HA.out (bcells_one k) ?c3 ?c4 (Nat.le_refl _) ?_)
        case c3 => unfold maxLen; omega
        case c4 => omega
        intro v1 w2 hown1 hg1
        have HB2 : Hid (Below w.heap.size w w2) := below_of_grown hg1 (Nat.le_refl _) (fun g hg => by cases hg)
        try simp only [Nat.zero_add, List.nil_append] at hown1
        have HO1 : Hid (w2.ownsRow w.heap.size 5 1 v1 (k.length + 0) (bcells (pk 0))) := by unfold RowKit.Hid; rw [HP0.out]; exact hown1
        clear hown1 hg1
        go_wp2_with fail
        go_loopw [8, 9] (fun v i wr => ∃ j : Nat, j ≤ m ∧ k.length + j ≤ 64 ∧ i = .int .i64 j ∧ Hid (wr.ownsRow w.heap.size 5 1 v (k.length + j) (bcells (pk j))) ∧ Hid (Below w.heap.size w wr)) (fun _ i _ => m - (intOf i).toNat)
        case atStart => exact ⟨0, by omega, by omega, rfl, HO1, HB2⟩
        case round =>
          obtain ⟨j, hj, hj2, rfl, hO, hB⟩ := hrel
          obtain ⟨A2, c2, rfl⟩ := own_slice hO.out
          have r0 : (0 : Int) ≤ j := by omega
          have hcap : k.length + j ≤ c2 ∧ c2 ≤ 9223372036854775807 := by
            rcases hO.out.2 with ⟨hv, h0⟩ | ⟨g, cap, cur, hv, _, _, hn', hc', _⟩
            · injection hv with _ h1 h2; omega
            · injection hv with _ h1 h2; unfold maxLen at hc'; omega
          have HCP := Lib.hid hcap
          clear hcap
          by_cases hgo : j < m ∧ k.length + j < 64
          · as_aux_lemma =>
              obtain ⟨g1, g2⟩ := hgo
              have hbz := hB.out.size
              go_wp2_with (at_builtin; refine wpList_append_own _ rfl _ _ 22 rfl w.heap.size 5 i0 (.int .u8 0) 1 1 Try.underlying22 hi hi0 hi1 hi2 rfl (by decide) _ _ _ rfl (hO.out.alloc _) ⟨wr.heap.size, 0, none⟩ 1 1 [.int .u8 0] rfl rfl ?k1 ?k2 ?k3 ?k4 ?k5 ?_)
              case k1 => exact cells_new _ _ _ _ rfl
              case k2 => intro u hu; rw [List.mem_singleton] at hu; subst hu; rfl
              case k3 => unfold maxLen; omega
              case k4 => omega
              case k5 => simp; omega
              intro v' w3 hown3 hgrow _
              have HB3 : Hid (Below w.heap.size w w3) := (hB.out.alloc hbz _).grown hgrow (by simp; omega) (fun b hb => (hO.out.lt b hb).1)
              have HO3 : Hid (w3.ownsRow w.heap.size 5 1 v' (k.length + (j + 1)) (bcells (pk (j + 1)))) := by
                unfold RowKit.Hid
                rw [HPS.out]
                exact hown3
              clear hown3 hgrow
              go_wp2_with fail
              go_roundw
              case rel => exact ⟨j + 1, by omega, by omega, by go_num, HO3, HB3⟩
              case measure => simp [intOf]; omega
          · have HSRC := Lib.hid (Src.of_own hO.out)
            have hcase : ¬ j < m ∨ (j < m ∧ ¬ k.length + j < 64) := by omega
            clear hgo
            rcases hcase with hq | ⟨hq1, hq2⟩
            all_goals
              go_wp2_with fail
              refine (HX.out j A2 c2 _ hj2 HSRC.out HCP.out.1 HCP.out.2 (HM.out.below hB.out (Nat.le_refl _))).mono ?_
              rintro e w4 ⟨rfl, hb4⟩
              have HB4 := Lib.hid (hB.out.trans (hb4.mono hB.out.size))
              have HS4 := Lib.hid (HSRC.out.below hb4 (Nat.le_refl _))
              clear hb4
              go_wp2_with fail
              refine (HTAG.out _ (HA.out.below HB4.out (Nat.le_refl _)) (HM.out.below HB4.out (Nat.le_refl _))).mono ?_
              rintro e w5 ⟨rfl, hb5⟩
              have HB5 := Lib.hid (HB4.out.trans (hb5.mono HB4.out.size))
              have HS5 := Lib.hid (HS4.out.below hb5 (Nat.le_refl _))
              clear hb5
              have heq := HEQ.out
              have heq2 := HEQ2.out
              go_wp2_with fail
              refine (HY.out j A2 c2 _ hj2 HS5.out HCP.out.1 HCP.out.2).mono ?_
              rintro e w6 ⟨rfl, hb6⟩
              have HB6 := Lib.hid (HB5.out.trans (hb6.mono HB5.out.size))
              clear hb6
              go_wp2_with fail
              refine (HBK.out _ (HA.out.below HB6.out (Nat.le_refl _))).mono ?_
              rintro e w7 ⟨rfl, hb7⟩
              have HB7 := Lib.hid (HB6.out.trans (hb7.mono HB6.out.size))
              clear hb7
              have heq3 := HEQ3.out
              have heq4 := HEQ4.out
              go_wp2_with fail
              refine (known_any _).mono ?_
              rintro e w8 ⟨rfl, hb8⟩
              have HB8 := Lib.hid (HB7.out.trans (hb8.mono HB7.out.size))
              clear hb8
              go_wp2_with fail
              go_ret
              exact ⟨rfl, HB8.out⟩
      · have HSUM := Lib.hid (fun (W : World) (h : BSrc W A c k) => shasum shastep_ok k A c W h hA2 (by omega) (by omega))
        have HDL := Lib.hid (sumOf_len k)
        have HT2 : Hid (∀ (g : Nat) (W : World), Src W (some ⟨g, 0, none⟩) 32 32 (bcells (sumOf k)) 1 → BSrc W A' c' b → Calls Try.prog 13 #[.slice (some ⟨g, 0, none⟩) 32 32, .slice A' b.length c'] W fun e w' => e = .returned (.agg (bcells (tagOf k b)).toArray) ∧ Below W.heap.size W w') := fun g W hs h' => by
          have hl := sumOf_len k
          have hs' : BSrc W (some ⟨g, 0, none⟩) 32 (sumOf k) := by unfold BSrc; rw [hl]; exact hs
          have := mactag (sumOf k) b (some ⟨g, 0, none⟩) A' 32 c' W hs' (Nat.le_of_eq hl) (by rw [hl]; omega) (by omega) h' (by omega)
          rw [hl, tagOf_long k b (by omega)] at this
          exact this
        generalize tagOf k b = T at *
        generalize sumOf k = D at *
        have HSP : Hid ((bcells D).toArray.size = 32) := by unfold RowKit.Hid; rw [List.size_toArray, bcells_length, HDL.out]
        have HONE : Hid ((bcells D).toArray.all (·.oneCell') = true) := cells_one32 _
        go_enter Try.func5, Try.ntmps5
        go_wp2_with fail
        refine (HSUM.out _ HA.out).mono ?_
        rintro e w1 ⟨rfl, hb1⟩
        have HB1 := Lib.hid hb1
        clear hb1
        go_upto_region 5 with (refine wpList_store_row rfl 27 (.tmp 7) (.tmp 23) rfl w1.heap.size (bcells D).toArray rfl rfl _ _ (heap_alloc_new _ _) (by rw [HI32.out, HSP.out]) (by rw [HSP.out]; rfl) HONE.out ?_)
        obtain ⟨W2, hW2⟩ : ∃ W2, W2 = (w1.alloc (.cells (Array.replicate 32 (.int .u8 0)) 27)).setRow w1.heap.size (bcells D).toArray := ⟨_, rfl⟩
        have HK2 : Hid (W2.heap[w1.heap.size]? = some (.cells (bcells D).toArray 27 (0, 0))) := by rw [hW2]; exact setRow_heap _ _ _ _ _ _ (heap_alloc_new _ _)
        have HB2 : Hid (Below w.heap.size w W2) := by rw [hW2]; exact below_setRow (HB1.out.alloc HB1.out.size _) HB1.out.size
        refine wp_congr_world (W1 := W2) hW2 ?_
        clear hW2
        refine wp_region_any (by kernel_rfl) ?_
        refine wpAny_ops (ops' := mkeysOps) (by kernel_rfl) ?_
        refine mkeysRegion _ W2 ?hs k b D T A A' c c' w1.heap.size HDL.out HTL.out HK2.out (fun W h => HTAG.out W (HA.out.below (HB2.out.trans (h.mono HB2.out.size)) (Nat.le_refl _)) (HM.out.below (HB2.out.trans (h.mono HB2.out.size)) (Nat.le_refl _))) (fun W h hs => HT2.out _ W hs (HM.out.below (HB2.out.trans (h.mono HB2.out.size)) (Nat.le_refl _))) rfl rfl rfl ?_
        case hs => simp [Act.put]
        intro w5 hb5
        simp only [mkeysSlots, List.foldl_cons, List.foldl_nil]
        simp only [mkeysVal]
        simp only [Act.put, List.setIfInBounds_toArray, List.set_cons_zero, List.set_cons_succ]
        have HB5 := Lib.hid (HB2.out.trans (hb5.mono HB2.out.size))
        clear hb5
        go_wp2_with fail
        go_ret
        exact ⟨rfl, HB5.out⟩
    · go_enter Try.func5, Try.ntmps5
      go_wp2_with fail
      refine (known_any _).mono ?_
      rintro e w8 ⟨rfl, hb8⟩
      go_wp2_with fail
      go_ret
      exact ⟨rfl, hb8⟩
  · go_enter Try.func5, Try.ntmps5
    go_wp2_with fail
    refine (known_any _).mono ?_
    rintro e w8 ⟨rfl, hb8⟩
    go_wp2_with fail
    go_ret
    exact ⟨rfl, hb8⟩
end Go.Proofs.Ytofjfpnkdcpngaa
