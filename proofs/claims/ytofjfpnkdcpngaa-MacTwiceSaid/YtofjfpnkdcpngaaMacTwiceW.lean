/-
  The walk of the law MacTwice: a tag is made of two digests.
-/
import Derived.Test.YtofjfpnkdcpngaaMacK
import Derived.Maps.AppendAt
namespace Go.Proofs.Ytofjfpnkdcpngaa
open Go.RowKit Mem

theorem mix_snoc (x : UInt8) (l : List UInt8) (k : Nat) (h : k < l.length) : bcells (mixB x (l.take (k + 1))) = bcells (mixB x (l.take k)) ++ [.int .u8 ((((l[k]'h) ^^^ x).toNat : Nat) : Int)] := by
  rw [List.take_succ_eq_append_getElem h]
  unfold mixB
  rw [List.map_append, bcells_append]
  rfl
def Apart2 (u v : Value) : Prop := u.ownBlock = none ∨ u.ownBlock ≠ v.ownBlock
set_option maxRecDepth 100000 in
set_option maxHeartbeats 4000000 in
theorem macTwice_walk (w : World) (A : Option Addr) (c : Nat) (k : List UInt8) (hA : BArg w A c k) (A' : Option Addr) (c' : Nat) (b : List UInt8) (hA' : BArg w A' c' b) :
    Calls Try.prog 6 #[.slice A k.length c, .slice A' b.length c'] w fun e w' => e = .returned (.bool true) ∧ Below w.heap.size w w' := by
  obtain ⟨hA1, hA2, hA3⟩ := hA
  obtain ⟨hM1, hM2, hM3⟩ := hA'
  by_cases h1 : k.length ≤ 16384
  · by_cases h2 : b.length ≤ 16384
    · obtain ⟨i0, hi, hi0, hi1, hi2⟩ := info_parts infoByte
      have HA := Lib.hid hA1
      have HM := Lib.hid hM1
      have hi64 : (Try.prog.info? 25).map (·.size) = some 64 := by kernel_rfl
      have hi32 : (Try.prog.info? 27).map (·.size) = some 32 := by kernel_rfl
      have HI64 := Lib.hid hi64
      have HI32 := Lib.hid hi32
      have HBK := Lib.hid (fun (W : World) (h : BSrc W A c k) => macblock k A c W h hA2 (by omega) (by omega))
      have HTAG := Lib.hid (fun (W : World) (h : BSrc W A c k) (h' : BSrc W A' c' b) => mactag k b A A' c c' W h hA2 (by omega) (by omega) h' (by omega))
      have HT : Hid (tagOf k b = sumOf (mixB 92 (blockOf k) ++ innerOf k b)) := rfl
      have HN : Hid (innerOf k b = sumOf (mixB 54 (blockOf k) ++ b)) := rfl
      have HL1 := Lib.hid (blockOf_len k)
      have HL2 := Lib.hid (innerOf_len k b)
      have HEQ := Lib.hid (fun W => eql32 (tagOf k b) (tagOf k b) (tagOf_len k b) (tagOf_len k b) W)
      have HEQ2 := Lib.hid (fun W => eq32 (tagOf k b) (tagOf k b) (tagOf_len k b) (tagOf_len k b) W)
      have HO1 := Lib.hid (cells_one32 (blockOf k))
      have HO2 := Lib.hid (cells_one32 (innerOf k b))
      clear hA1 hM1 hi64 hi32
      generalize blockOf k = blk at *
      generalize tagOf k b = tg at *
      generalize innerOf k b = d1 at *
      have HS1 : Hid ((bcells blk).toArray.size = 64) := by unfold RowKit.Hid; rw [List.size_toArray, bcells_length, HL1.out]
      have HS2 : Hid ((bcells d1).toArray.size = 32) := by unfold RowKit.Hid; rw [List.size_toArray, bcells_length, HL2.out]
      go_enter Try.func6, Try.ntmps6
      go_wp2_with fail
      refine (HBK.out _ HA.out).mono ?_
      rintro e w1 ⟨rfl, hb1⟩
      have HB1 := Lib.hid hb1
      clear hb1
      go_upto_region 4 with (refine wpList_store_row rfl 25 (.tmp 5) (.tmp 20) rfl w1.heap.size (bcells blk).toArray rfl rfl _ _ (heap_alloc_new _ _) (by rw [HI64.out, HS1.out]) (by rw [HS1.out]; rfl) HO1.out ?_)
      obtain ⟨W2, hW2⟩ : ∃ W2, W2 = (w1.alloc (.cells (Array.replicate 64 (.int .u8 0)) 25)).setRow w1.heap.size (bcells blk).toArray := ⟨_, rfl⟩
      have HK2 : Hid (W2.heap[w1.heap.size]? = some (.cells (bcells blk).toArray 25 (0, 0))) := by rw [hW2]; exact setRow_heap _ _ _ _ _ _ (heap_alloc_new _ _)
      have HB2 : Hid (Below w.heap.size w W2) := by rw [hW2]; exact below_setRow (HB1.out.alloc HB1.out.size _) HB1.out.size
      refine wp_congr_world (W1 := W2) hW2 ?_
      have HKL : Hid (w1.heap.size < W2.heap.size) := (Array.getElem?_eq_some_iff.1 HK2.out).1
      clear hW2
      go_wp2_with fail
      go_loopw [6, 7, 8] (fun v u i wr => ∃ j : Nat, j ≤ 64 ∧ i = .int .i64 j ∧ Hid (wr.ownsRow W2.heap.size 5 1 v j (bcells (mixB 54 (blk.take j)))) ∧ Hid (wr.ownsRow W2.heap.size 5 1 u j (bcells (mixB 92 (blk.take j)))) ∧ Hid (Apart2 v u ∧ Apart2 u v) ∧ Hid (Below W2.heap.size W2 wr)) (fun _ _ i _ => 64 - (intOf i).toNat)
      case atStart => exact ⟨0, by omega, rfl, World.ownsRow_nil _ _ _ _, World.ownsRow_nil _ _ _ _, ⟨.inl rfl, .inl rfl⟩, Below.refl _ _⟩
      case round =>
        obtain ⟨j, hj, rfl, hv, hu, hap, hB⟩ := hrel
        by_cases hlt : j < 64
        · as_aux_lemma =>
            have hjl : j < blk.length := by rw [HL1.out]; exact hlt
            have cb : wr.cell? ⟨w1.heap.size, j, none⟩ = some (.int .u8 ((blk[j]'hjl).toNat : Int)) := by
              rw [cell_of_row wr w1.heap.size j _ _ (0, 0) ((hB.out.block _ HKL.out).trans HK2.out), List.getElem?_toArray]; exact bcells_at blk j hjl
            have H54 := Lib.hid (mix_snoc 54 blk j hjl)
            have H92 := Lib.hid (mix_snoc 92 blk j hjl)
            have X54 := Lib.hid (b_xor (blk[j]'hjl) 54)
            have X92 := Lib.hid (b_xor (blk[j]'hjl) 92)
            have hcy : (bcells blk).toArray[j]? = some (.int .u8 ((blk[j]'hjl).toNat : Int)) := by rw [List.getElem?_toArray]; exact bcells_at blk j hjl
            generalize blk[j]'hjl = y at *
            have HCY := Lib.hid hcy
            clear hcy
            have r0 : (0 : Int) ≤ j := by omega
            have r1 : (j : Int) < 64 := by omega
            go_wp2_with (at_builtin; refine wpList_append_own_at _ rfl (.tmp 25) (.tmp 30) 22 rfl W2.heap.size 5 i0 (.int .u8 0) 1 1 Try.underlying22 hi hi0 hi1 hi2 rfl (by decide) u6 j (bcells (mixB 54 (blk.take j))) rfl (hv.out.alloc _) ⟨wr.heap.size, 0, none⟩ 1 1 [.int .u8 (bits .xor .u8 (y.toNat : Int) 54)] rfl rfl ?c1 ?c2 ?c3 ?c4 ?c5 ?_)
            case c1 => exact cells_new _ _ _ _ rfl
            case c2 => intro u hu; rw [List.mem_singleton] at hu; subst hu; rfl
            case c3 => unfold maxLen; omega
            case c4 => omega
            case c5 => have := hB.out.size; simp; omega
            intro v2 w3 hown2 hg2 _ hat
            have HBa : Hid (Below W2.heap.size W2 w3) := (hB.out.alloc hB.out.size _).grown hg2 (by have := hB.out.size; simp; omega) (fun g hg => (hv.out.lt g hg).1)
            have HU3 : Hid (w3.ownsRow W2.heap.size 5 1 u7 j (bcells (mixB 92 (blk.take j)))) := (hu.out.alloc _).kept hg2 hap.out.2
            have HAP3 : Hid (Apart2 v2 u7 ∧ Apart2 u7 v2) := by
              rcases hat with h | h
              · have hp := hap.out
                unfold RowKit.Hid Apart2
                unfold Apart2 at hp
                rw [h]
                exact hp
              · have hne : ∀ g, u7.ownBlock = some g → g < wr.heap.size := fun g hg => (hu.out.lt g hg).2
                have hz : v2.ownBlock = some (wr.heap.size + 1) := by simpa using h
                unfold RowKit.Hid Apart2
                rw [hz]
                rcases hq : u7.ownBlock with _ | g
                · exact ⟨.inr (by simp), .inl rfl⟩
                · have := hne g hq
                  exact ⟨.inr (by simp; omega), .inr (by simp; omega)⟩
            have e54 : ((54 : UInt8).toNat : Int) = 54 := rfl
            have e92 : ((92 : UInt8).toNat : Int) = 92 := rfl
            have x54 := X54.out
            rw [e54] at x54
            rw [x54, ← H54.out] at hown2
            have HV3 := Lib.hid hown2
            have cb3 := (HBa.out.block _ HKL.out).trans HK2.out
            have cb : w3.cell? ⟨w1.heap.size, j, none⟩ = some (.int .u8 (y.toNat : Int)) := by
              rw [cell_of_row w3 w1.heap.size j _ _ (0, 0) cb3, ← HCY.out]
            have X92' := X92.out
            rw [e92] at X92'
            have X9 := Lib.hid X92'
            have hbz := HBa.out.size
            clear hown2 hg2 hat e54 e92 x54 cb3 X92'
            go_wp2_with (at_builtin; refine wpList_append_own_at _ rfl (.tmp 32) (.tmp 37) 22 rfl W2.heap.size 5 i0 (.int .u8 0) 1 1 Try.underlying22 hi hi0 hi1 hi2 rfl (by decide) u7 j (bcells (mixB 92 (blk.take j))) rfl (HU3.out.alloc _) ⟨w3.heap.size, 0, none⟩ 1 1 [.int .u8 (bits .xor .u8 (y.toNat : Int) 92)] rfl rfl ?d1 ?d2 ?d3 ?d4 ?d5 ?_)
            case d1 => exact cells_new _ _ _ _ rfl
            case d2 => intro u hu; rw [List.mem_singleton] at hu; subst hu; rfl
            case d3 => unfold maxLen; omega
            case d4 => omega
            case d5 => simp; omega
            intro u2 w4 hown4 hg4 _ hat4
            have HBb : Hid (Below W2.heap.size W2 w4) := (HBa.out.alloc HBa.out.size _).grown hg4 (by simp; omega) (fun g hg => (HU3.out.lt g hg).1)
            have HV4 : Hid (w4.ownsRow W2.heap.size 5 1 v2 (j + 1) (bcells (mixB 54 (blk.take (j + 1))))) := (HV3.out.alloc _).kept hg4 HAP3.out.1
            have HAP4 : Hid (Apart2 v2 u2 ∧ Apart2 u2 v2) := by
              rcases hat4 with h | h
              · have hp := HAP3.out
                unfold RowKit.Hid Apart2
                unfold Apart2 at hp
                rw [h]
                exact hp
              · have hne : ∀ g, v2.ownBlock = some g → g < w3.heap.size := fun g hg => (HV3.out.lt g hg).2
                have hz : u2.ownBlock = some (w3.heap.size + 1) := by simpa using h
                unfold RowKit.Hid Apart2
                rw [hz]
                rcases hq : v2.ownBlock with _ | g
                · exact ⟨.inl rfl, .inr (by simp)⟩
                · have := hne g hq
                  exact ⟨.inr (by simp; omega), .inr (by simp; omega)⟩
            rw [X9.out, ← H92.out] at hown4
            have HU4 := Lib.hid hown4
            clear hown4 hg4 hat4
            go_wp2_with fail
            go_roundw
            case rel => exact ⟨j + 1, by omega, by go_num, HV4, HU4, HAP4, HBb⟩
            case measure => simp [intOf]; omega
        · obtain rfl : j = 64 := by omega
          have hv6 := hv.out
          have hu7 := hu.out
          rw [List.take_of_length_le (by rw [HL1.out]; exact Nat.le_refl _)] at hv6 hu7
          have HV := Lib.hid hv6
          have HU := Lib.hid hu7
          have HBW := Lib.hid (HB2.out.trans (hB.out.mono HB2.out.size))
          have hX := fun (A : Option Addr) (c : Nat) (W : World) (h : BSrc W A c (mixB 54 blk ++ b)) (h1 : (mixB 54 blk ++ b).length ≤ c) (h2 : c ≤ 9223372036854775807) => shasum shastep_ok (mixB 54 blk ++ b) A c W h h1 (by rw [List.length_append, mixB_len, HL1.out]; omega) h2
          have hY := fun (A : Option Addr) (c : Nat) (W : World) (h : BSrc W A c (mixB 92 blk ++ d1)) (h1 : (mixB 92 blk ++ d1).length ≤ c) (h2 : c ≤ 9223372036854775807) => shasum shastep_ok (mixB 92 blk ++ d1) A c W h h1 (by rw [List.length_append, mixB_len, HL1.out, HL2.out]; decide) h2
          rw [← HN.out] at hX
          rw [← HT.out] at hY
          have HX := Lib.hid hX
          have HY := Lib.hid hY
          have HXL : Hid ((mixB 54 blk ++ b).length = 64 + b.length) := by unfold RowKit.Hid; rw [List.length_append, mixB_len, HL1.out]
          have HYL : Hid ((mixB 92 blk ++ d1).length = 64 + 32) := by unfold RowKit.Hid; rw [List.length_append, mixB_len, HL1.out, HL2.out]
          have HAP := Lib.hid hap.out.2
          have hbz := hB.out.size
          clear hv6 hu7 hX hY hap hv hu HN HT
          go_wp2_with (at_builtin; refine wpList_app_any rfl (.tmp 39) (.tmp 40) 22 rfl W2.heap.size 5 i0 (.int .u8 0) 1 1 Try.underlying22 hi hi0 hi1 hi2 rfl (by decide) u6 64 (bcells (mixB 54 blk)) rfl HV.out A' b.length c' (bcells b) rfl (HM.out.below HBW.out (Nat.le_refl _)) (bcells_one b) ?e3 ?e4 hbz ?_)
          case e3 => unfold maxLen; omega
          case e4 => omega
          intro v2 w3 hown2 hg2
          have HB3 : Hid (Below W2.heap.size W2 w3) := hB.out.trans (below_of_grown hg2 hbz (fun g hg => (HV.out.lt g hg).1))
          have HU3 : Hid (w3.ownsRow W2.heap.size 5 1 u7 64 (bcells (mixB 92 blk))) := HU.out.kept hg2 HAP.out
          have ho : w3.ownsRow W2.heap.size 5 1 v2 (mixB 54 blk ++ b).length (bcells (mixB 54 blk ++ b)) := by rw [HXL.out, bcells_append]; exact hown2
          obtain ⟨A2, c2, rfl⟩ := own_slice ho
          have hcap : (mixB 54 blk ++ b).length ≤ c2 ∧ c2 ≤ 9223372036854775807 := by
            rcases ho.2 with ⟨hv, h0⟩ | ⟨g, cap, cur, hv, _, _, hn', hc', _⟩
            · injection hv with _ h1 h2; omega
            · injection hv with _ h1 h2; unfold maxLen at hc'; omega
          have HSRC := Lib.hid (Src.of_own ho)
          have HCAP := Lib.hid hcap
          clear hown2 hg2 ho hcap
          generalize mixB 54 blk ++ b = m1 at *
          go_wp2_with fail
          refine (HX.out A2 c2 _ HSRC.out HCAP.out.1 HCAP.out.2).mono ?_
          rintro e w4 ⟨rfl, hb4⟩
          have HB4 := Lib.hid (HB3.out.trans (hb4.mono HB3.out.size))
          have HU4 := Lib.hid (own_below HU3.out hb4)
          clear hb4
          go_upto_region 13 with (refine wpList_store_row rfl 27 (.tmp 9) (.tmp 43) rfl w4.heap.size (bcells d1).toArray rfl rfl _ _ (heap_alloc_new _ _) (by rw [HI32.out, HS2.out]) (by rw [HS2.out]; rfl) HO2.out ?_)
          obtain ⟨W5, hW5⟩ : ∃ W5, W5 = (w4.alloc (.cells (Array.replicate 32 (.int .u8 0)) 27)).setRow w4.heap.size (bcells d1).toArray := ⟨_, rfl⟩
          have HD5 : Hid (W5.heap[w4.heap.size]? = some (.cells (bcells d1).toArray 27 (0, 0))) := by rw [hW5]; exact setRow_heap _ _ _ _ _ _ (heap_alloc_new _ _)
          have hb5 : Below w4.heap.size w4 W5 := by rw [hW5]; exact below_setRow ((Below.refl _ _).alloc (Nat.le_refl _) _) (Nat.le_refl _)
          refine wp_congr_world (W1 := W5) hW5 ?_
          have HB5 := Lib.hid (HB4.out.trans (hb5.mono HB4.out.size))
          have HU5 := Lib.hid (own_below HU4.out hb5)
          have HS5 := Lib.hid (src_row HD5.out HL2.out.symm)
          have hbz5 := HB5.out.size
          clear hW5 hb5
          go_wp2_with (at_builtin; refine wpList_app_any rfl (.tmp 44) (.tmp 45) 22 rfl W2.heap.size 5 i0 (.int .u8 0) 1 1 Try.underlying22 hi hi0 hi1 hi2 rfl (by decide) u7 64 (bcells (mixB 92 blk)) rfl HU5.out (some ⟨w4.heap.size, 0, none⟩) 32 32 (bcells d1) rfl HS5.out (bcells_one d1) ?f3 ?f4 hbz5 ?_)
          case f3 => unfold maxLen; omega
          case f4 => omega
          intro v5 w6 hown5 hg5
          have HB6 : Hid (Below W2.heap.size W2 w6) := HB5.out.trans (below_of_grown hg5 hbz5 (fun g hg => (HU5.out.lt g hg).1))
          have ho : w6.ownsRow W2.heap.size 5 1 v5 (mixB 92 blk ++ d1).length (bcells (mixB 92 blk ++ d1)) := by rw [HYL.out, bcells_append]; exact hown5
          obtain ⟨A5, c5, rfl⟩ := own_slice ho
          have hcap : (mixB 92 blk ++ d1).length ≤ c5 ∧ c5 ≤ 9223372036854775807 := by
            rcases ho.2 with ⟨hv, h0⟩ | ⟨g, cap, cur, hv, _, _, hn', hc', _⟩
            · injection hv with _ h1 h2; omega
            · injection hv with _ h1 h2; unfold maxLen at hc'; omega
          have HSRC5 := Lib.hid (Src.of_own ho)
          have HCAP5 := Lib.hid hcap
          have HB7 := Lib.hid (HB2.out.trans (HB6.out.mono HB2.out.size))
          clear hown5 hg5 ho hcap
          generalize mixB 92 blk ++ d1 = m2 at *
          go_wp2_with fail
          refine (HTAG.out _ (HA.out.below HB7.out (Nat.le_refl _)) (HM.out.below HB7.out (Nat.le_refl _))).mono ?_
          rintro e w7 ⟨rfl, hb7⟩
          have HB8 := Lib.hid (HB7.out.trans (hb7.mono HB7.out.size))
          have HSRC7 := Lib.hid (HSRC5.out.below hb7 (Nat.le_refl _))
          clear hb7
          go_wp2_with fail
          refine (HY.out A5 c5 _ HSRC7.out HCAP5.out.1 HCAP5.out.2).mono ?_
          rintro e w8 ⟨rfl, hb8⟩
          have HB9 := Lib.hid (HB8.out.trans (hb8.mono HB8.out.size))
          have heq : ∀ W, (binOp .eql 27 (.agg (bcells tg).toArray) (.agg (bcells tg).toArray)).run Try.prog W = .ok (.bool true) W := fun W => by rw [HEQ.out W]; simp
          have heq2 : ∀ W, (Op.equalIn 10000 27 (.agg (bcells tg).toArray) (.agg (bcells tg).toArray)).run Try.prog W = .ok true W := fun W => by rw [HEQ2.out W]; simp
          clear hb8
          go_wp2_with fail
          refine (known_any _).mono ?_
          rintro e w9 ⟨rfl, hb9⟩
          go_wp2_with fail
          go_ret
          exact ⟨rfl, HB9.out.trans (hb9.mono HB9.out.size)⟩
    · go_enter Try.func6, Try.ntmps6
      go_wp2_with fail
      refine (known_any _).mono ?_
      rintro e w8 ⟨rfl, hb8⟩
      go_wp2_with fail
      go_ret
      exact ⟨rfl, hb8⟩
  · go_enter Try.func6, Try.ntmps6
    go_wp2_with fail
    refine (known_any _).mono ?_
    rintro e w8 ⟨rfl, hb8⟩
    go_wp2_with fail
    go_ret
    exact ⟨rfl, hb8⟩
end Go.Proofs.Ytofjfpnkdcpngaa
