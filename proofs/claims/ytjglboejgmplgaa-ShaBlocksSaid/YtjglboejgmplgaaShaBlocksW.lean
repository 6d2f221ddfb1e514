/-
  The walk of the law ShaBlocks: bytes and what stands behind them are whole blocks, and the digest is the state behind all of them.
-/
import Derived.Test.YtjglboejgmplgaaShaBlocksR
import Derived.Test.YtjglboejgmplgaaRefSum
import Derived.Test.YtjglboejgmplgaaShaK
import Derived.Test.YtjglboejgmplgaaOpenR
namespace Go.Proofs.Ytjglboejgmplgaa
open Go.RowKit Mem

theorem word_dig (l : List UInt32) (k : Nat) : Sh.word (digB l (4 * k)) (digB l (4 * k + 1)) (digB l (4 * k + 2)) (digB l (4 * k + 3)) = l.getD k 0 := by
  unfold digB
  rw [show 4 * k / 4 = k by omega, show (4 * k + 1) / 4 = k by omega, show (4 * k + 2) / 4 = k by omega, show (4 * k + 3) / 4 = k by omega, show 4 * k % 4 = 0 by omega, show (4 * k + 1) % 4 = 1 by omega, show (4 * k + 2) % 4 = 2 by omega, show (4 * k + 3) % 4 = 3 by omega]
  generalize l.getD k 0 = x
  apply UInt32.toNat_inj.1
  have hx := x.toNat_lt
  rw [word_toNat, UInt8.toNat_ofNat', UInt8.toNat_ofNat', UInt8.toNat_ofNat', UInt8.toNat_ofNat']
  simp only [Nat.mul_zero, Nat.sub_zero, Nat.mul_one]
  omega
set_option maxRecDepth 100000 in
set_option maxHeartbeats 4000000 in
theorem shaBlocks_walk (w : World) (A : Option Addr) (c : Nat) (b : List UInt8) (hA : BArg w A c b) :
    Calls Try.prog 7 #[.slice A b.length c] w fun e w' => e = .returned (.bool true) ∧ Below w.heap.size w w' := by
  obtain ⟨hA1, hA2, hA3⟩ := hA
  have HA := Lib.hid hA1
  clear hA1
  by_cases h1 : b.length ≤ 16384
  · obtain ⟨i0, hi, hi0, hi1, hi2⟩ := info_parts infoByte
    have HPAD := Lib.hid (fun W => shapad_ok b.length W (by omega))
    have HPL := padOf_len b.length
    have HPG : 9 ≤ (padOf b.length).length := by rw [padOf_length]; omega
    have HE : Hid (sumOf b = outB (Sh.stL (setZ Sh.first (allOf b) ((allOf b).length / 64)))) := by unfold RowKit.Hid; rw [allOf_end]; rfl
    have HM64 := Lib.hid (allOf_len b)
    have HALL : Hid (allOf b = b ++ padOf b.length) := rfl
    have HMOD : Hid ((b.length + (padOf b.length).length) % 64 = 0) := by have := allOf_len b; unfold allOf at this; rw [List.length_append] at this; exact this
    have HSUM := Lib.hid (fun (W : World) (h : BSrc W A c b) => shasum shastep_ok b A c W h hA2 (by omega) (by omega))
    have hi32 : (Try.prog.info? 37).map (·.size) = some 32 := by kernel_rfl
    have HI32 := Lib.hid hi32
    have hi8 : (Try.prog.info? 23).map (·.size) = some 8 := by kernel_rfl
    have HI8 := Lib.hid hi8
    clear hi32 hi8
    generalize padOf b.length = pd at *
    have hmod : (((b.length : Int) + (pd.length : Int)) % 64 != 0) = false := by rw [bne_eq_false_iff_eq]; have := HMOD.out; omega
    go_enter Try.func7, Try.ntmps7
    go_wp2_with fail
    refine (HPAD.out _).mono ?_
    rintro e w1 ⟨vp, rfl, hop, hb1⟩
    obtain ⟨Ap, cp, rfl⟩ := own_slice hop
    have HOP := Lib.hid (Src.of_own hop)
    have HB2 := Lib.hid hb1
    clear hop hb1
    go_wp2_with (at_builtin; refine wpList_app_any rfl (.tmp 44) (.tmp 45) 24 rfl w1.heap.size 5 i0 (.int .u8 0) 1 1 Try.underlying24 hi hi0 hi1 hi2 rfl (by decide) (.slice none 0 0) 0 [] rfl (World.ownsRow_nil _ _ _ _) A b.length c (bcells b) rfl (HA.out.below HB2.out (Nat.le_refl _)) (bcells_one b) ?c3 ?c4 (Nat.le_refl _) ?_)
    case c3 => unfold maxLen; omega
    case c4 => omega
    intro v1 w2 hown1 hg1
    have HB3 : Hid (Below w1.heap.size w1 w2) := below_of_grown hg1 (Nat.le_refl _) (fun g hg => by cases hg)
    try simp only [Nat.zero_add, List.nil_append] at hown1
    have HO1 : Hid (w2.ownsRow w1.heap.size 5 1 v1 b.length (bcells b)) := hown1
    clear hown1 hg1 hmod
    go_wp2_with (at_builtin; refine wpList_app_any rfl (.tmp 47) (.tmp 48) 24 rfl w1.heap.size 5 i0 (.int .u8 0) 1 1 Try.underlying24 hi hi0 hi1 hi2 rfl (by decide) v1 b.length (bcells b) rfl HO1.out Ap pd.length cp (bcells pd) rfl (HOP.out.below HB3.out (Nat.le_refl _)) (bcells_one pd) ?d3 ?d4 HB3.out.size ?_)
    case d3 => unfold maxLen; omega
    case d4 => omega
    intro v2 w3 hown2 hg2
    have HB4 : Hid (Below w1.heap.size w1 w3) := HB3.out.trans (below_of_grown hg2 HB3.out.size (fun g hg => (HO1.out.lt g hg).1))
    have HB5 := Lib.hid (HB2.out.trans (HB4.out.mono HB2.out.size))
    have ho : w3.ownsRow w1.heap.size 5 1 v2 (allOf b).length (bcells (allOf b)) := by
      rw [HALL.out, List.length_append, bcells_append]; exact hown2
    have htl : b.length + pd.length = (allOf b).length := by rw [HALL.out, List.length_append]
    obtain ⟨A2, c2, rfl⟩ := own_slice ho
    have hcap : (allOf b).length ≤ c2 ∧ c2 ≤ 9223372036854775807 := by
      rcases ho.2 with ⟨hv, h0⟩ | ⟨g, cap, cur, hv, _, _, hn', hc', _⟩
      · injection hv with _ h1 h2; omega
      · injection hv with _ h1 h2; unfold maxLen at hc'; omega
    have HAt := Lib.hid (BytesAt.of_own ho)
    have HCP := Lib.hid hcap
    have hal : (allOf b).length ≤ 140737488351232 := by omega
    clear hown2 hg2 ho htl hcap HOP HO1 HB3 HALL HPL HPAD HMOD HPG
    generalize allOf b = al at *
    go_wp2_with fail
    refine (shafirst _).mono ?_
    rintro e w4 ⟨rfl, hb4⟩
    have HB6 := Lib.hid (HB5.out.trans (hb4.mono HB5.out.size))
    have HAt4 := Lib.hid (HAt.out.below hb4 (Nat.le_refl _))
    have HF8 : Hid ((wcells (Sh.stL Sh.first)).toArray.size = 8) := by unfold RowKit.Hid; rw [List.size_toArray, wcells_length, stL_len]
    clear hb4
    go_upto_region 10 with (refine wpList_store_row rfl 23 (.tmp 6) (.tmp 50) rfl w4.heap.size (wcells (Sh.stL Sh.first)).toArray rfl rfl _ _ (heap_alloc_new _ _) (by rw [HI8.out, HF8.out]) (by rw [HF8.out]; rfl) (wcells_one _) ?_)
    obtain ⟨W5, hW5⟩ : ∃ W5, W5 = (w4.alloc (.cells (Array.replicate 8 (.int .u32 0)) 23)).setRow w4.heap.size (wcells (Sh.stL Sh.first)).toArray := ⟨_, rfl⟩
    have HG5 : Hid (W5.heap[w4.heap.size]? = some (.cells (wcells (Sh.stL (setZ Sh.first al 0))).toArray 23 (0, 0))) := by rw [hW5]; exact setRow_heap _ _ _ _ _ _ (heap_alloc_new _ _)
    have hb5 : Below w4.heap.size w4 W5 := by rw [hW5]; exact below_setRow ((Below.refl _ _).alloc (Nat.le_refl _) _) (Nat.le_refl _)
    refine wp_congr_world (W1 := W5) hW5 ?_
    have HB7 := Lib.hid hb5
    clear hW5 hb5 hi hi0 hi1 hi2
    have HSL : Hid (∀ k, (Sh.stL (setZ Sh.first al k)).length = 8) := fun _ => rfl
    have HNX : Hid (∀ k, setZ Sh.first al (k + 1) = Sh.step (setZ Sh.first al k) ((al.take (64 * k + 64)).drop (64 * k))) := fun k => setZ_last _ _ k
    generalize hzz : (fun k => setZ Sh.first al k) = zz at *
    have hz0 : ∀ k, setZ Sh.first al k = zz k := fun k => by rw [← hzz]
    rw [hz0] at HE HG5
    simp only [hz0] at HSL HNX
    clear hzz hz0
    go_wp2_with fail
    go_loopw [7] (fun i wr => ∃ k : Nat, 64 * k ≤ al.length ∧ i = .int .i64 (64 * (k : Int)) ∧ Hid (wr.heap[w4.heap.size]? = some (.cells (wcells (Sh.stL (zz k))).toArray 23 (0, 0))) ∧ Hid (Below w4.heap.size w4 wr)) (fun i _ => al.length - (intOf i).toNat)
    case atStart => exact ⟨0, by omega, rfl, HG5, HB7⟩
    case round =>
      obtain ⟨k, hk, rfl, hG, hB⟩ := hrel
      by_cases hlt : 64 * k < al.length
      · as_aux_lemma =>
          have hk64 : 64 * k + 64 ≤ al.length := by have := HM64.out; omega
          obtain ⟨A1, hA1, hsl⟩ := slice_mid c2 (HAt4.out.below hB.out (Nat.le_refl _)) (64 * k) (64 * k + 64) (by omega) hk64 HCP.out.1
          have hbl : ((al.take (64 * k + 64)).drop (64 * k)).length = 64 := by rw [List.length_drop, List.length_take]; omega
          have hsl' : ∀ wx, (Instr.slice 24 (.slice A2 al.length c2) (some (.int .i64 (64 * (k : Int)))) (some (.int .i64 (64 * (k : Int) + 64))) none).run Try.prog wx = .ok (.slice A1 64 (c2 - 64 * k)) wx := fun wx => by
            have := hsl wx
            rw [show ((64 * k : Nat) : Int) = 64 * (k : Int) by omega, show ((64 * k + 64 : Nat) : Int) = 64 * (k : Int) + 64 by omega, show 64 * k + 64 - 64 * k = 64 by omega] at this
            exact this
          have hwr : IntKind.i64.wrap (64 * (k : Int) + 64) = 64 * (k : Int) + 64 := IntWalk.i64_in _ (by omega)
          have HST := Lib.hid (fun W (h : Below wr.heap.size wr W) => shastep_ok (zz k) ((al.take (64 * k + 64)).drop (64 * k)) A1 (c2 - 64 * k) W (hA1.below h (Nat.le_refl _)) hbl)
          rw [← HNX.out] at HST
          have H1 := Lib.hid hsl'
          have H2 := Lib.hid hwr
          clear hA1 hsl hsl' hwr hbl
          go_upto_region 13 with fail
          go_cut [8, 9] (fun s8 s9 wx => StepPost wr (Sh.stL (zz (k + 1))) s8 s9 wx)
          case first =>
            refine wp_region_any (by kernel_rfl) ?_
            refine wpAny_ops (ops' := blksOps) (by kernel_rfl) ?_
            refine blksRegion _ wr (by simp) (Sh.stL (zz k)) (Sh.stL (zz (k + 1))) (HSL.out _) (HSL.out _) A2 A1 al.length c2 (c2 - 64 * k) w4.heap.size k HST.out H1.out H2.out hG.out rfl rfl rfl ?_
            intro wx g hbx hgx hrx
            simp only [blksSlots, List.foldl_cons, List.foldl_nil]
            simp only [blksVal]
            simp only [Act.put, List.setIfInBounds_toArray, List.set_cons_zero, List.set_cons_succ]
            have hm : StepPost wr (Sh.stL (zz (k + 1))) (.pointer (some ⟨g, 0, none⟩)) (.int .i64 0) wx := ⟨g, rfl, rfl, hgx, hrx, hbx⟩
            have HMM := Lib.hid hm
            clear hbx hgx hrx hm
            go_wp2_with fail
            go_meet
            exact HMM.out
          case rest =>
            obtain ⟨g, rfl, rfl, hg1, hg2, hg3⟩ := hcut
            have HG2 := Lib.hid hg2
            have HZZ : Hid ((wcells (Sh.stL (zz (k + 1)))).toArray.size = 8) := by unfold RowKit.Hid; rw [List.size_toArray, wcells_length, HSL.out]
            have HZK : Hid ((wcells (Sh.stL (zz k))).toArray.size = 8) := by unfold RowKit.Hid; rw [List.size_toArray, wcells_length, HSL.out]
            have HK6 := Lib.hid ((hg3.block _ (Array.getElem?_eq_some_iff.1 hG.out).1).trans hG.out)
            have HBX := Lib.hid (hB.out.trans (hg3.mono hB.out.size))
            clear hg2 hg3
            go_wp2_with (first
              | refine wpList_load_row rfl 23 (.tmp 8) rfl g rfl _ _ _ (.array 8 22) HG2.out (by kernel_rfl) rfl (by rw [HI8.out, HZZ.out]) ?_
              | refine wpList_store_row rfl 23 (.tmp 6) (.tmp 69) rfl w4.heap.size (wcells (Sh.stL (zz (k + 1)))).toArray rfl rfl _ _ HK6.out (by rw [HI8.out, HZZ.out]) (by rw [HZK.out, HZZ.out]) (wcells_one _) ?_)
            have E1 := Lib.hid (setRow_heap _ _ _ (wcells (Sh.stL (zz (k + 1)))).toArray _ _ HK6.out)
            have E2 := Lib.hid (below_setRow (cs := (wcells (Sh.stL (zz (k + 1)))).toArray) HBX.out (Nat.le_refl _))
            go_roundw
            case rel => exact ⟨k + 1, hk64, by go_num, E1, E2⟩
            case measure => simp [intOf]; omega
      · have hke : k = al.length / 64 := by have := HM64.out; omega
        rw [← hke] at HE
        have HBW := Lib.hid (HB6.out.trans (hB.out.mono HB6.out.size))
        have HBA := Lib.hid (HA.out.below HBW.out (Nat.le_refl _))
        have HSP : Hid ((bcells (sumOf b)).toArray.size = 32) := by unfold RowKit.Hid; rw [List.size_toArray, bcells_length, sumOf_len]
        have HST := Lib.hid (HSL.out k)
        clear hke HNX HSL HAt HAt4 HM64 HCP HG5 HB2 HB4 HB5 HB7
        generalize hD : sumOf b = D at *
        generalize hL : Sh.stL (zz k) = L at *
        clear hD hL
        have HONE : Hid ((bcells D).toArray.all (·.oneCell') = true) := cells_one32 _
        go_wp2_with fail
        refine (HSUM.out _ HBA.out).mono ?_
        rintro e w5 ⟨rfl, hb5⟩
        have hlt4 := (Array.getElem?_eq_some_iff.1 hG.out).1
        have HG6 : Hid (w5.heap[w4.heap.size]? = some (.cells (wcells L).toArray 23 (0, 0))) := (hb5.block _ hlt4).trans hG.out
        have HBX := Lib.hid (HBW.out.trans (hb5.mono HBW.out.size))
        have HLT : Hid (w4.heap.size < w5.heap.size) := Nat.lt_of_lt_of_le hlt4 hb5.size
        clear hb5 hlt4
        go_upto_region 18 with (refine wpList_store_row rfl 37 (.tmp 10) (.tmp 71) rfl w5.heap.size (bcells D).toArray rfl rfl _ _ (heap_alloc_new _ _) (by rw [HI32.out, HSP.out]) (by rw [HSP.out]; rfl) HONE.out ?_)
        obtain ⟨WZ, hWZ⟩ : ∃ WZ, WZ = (w5.alloc (.cells (Array.replicate 32 (.int .u8 0)) 37)).setRow w5.heap.size (bcells D).toArray := ⟨_, rfl⟩
        have hbz : Below w5.heap.size w5 WZ := by rw [hWZ]; exact below_setRow ((Below.refl _ _).alloc (Nat.le_refl _) _) (Nat.le_refl _)
        have HD0 : Hid (WZ.heap[w5.heap.size]? = some (.cells (bcells D).toArray 37 (0, 0))) := by rw [hWZ]; exact setRow_heap _ _ _ _ _ _ (heap_alloc_new _ _)
        have HV0 : Hid (WZ.heap[w4.heap.size]? = some (.cells (wcells L).toArray 23 (0, 0))) := (hbz.block _ HLT.out).trans HG6.out
        have HBZ := Lib.hid (HBX.out.trans (hbz.mono HBX.out.size))
        refine wp_congr_world (W1 := WZ) hWZ ?_
        clear hWZ hbz
        have HDG : Hid (∀ j, j < 32 → (bcells D).toArray[j]? = some (.int .u8 ((digB L j).toNat : Int))) := fun j hj => by
          have hg := outB_get L j (by rw [HST.out]; omega)
          rw [← HE.out] at hg
          rw [List.getElem?_toArray]
          unfold bcells
          rw [List.getElem?_map, hg]
          rfl
        have HVG : Hid (∀ j, j < 8 → (wcells L).toArray[j]? = some (.int .u32 ((L.getD j 0).toNat : Int))) := fun j hj => by
          have hj8 : j < L.length := by rw [HST.out]; exact hj
          rw [List.getElem?_toArray, wcells_at _ j hj8, List.getD_eq_getElem?_getD, List.getElem?_eq_getElem hj8]
          rfl
        have HWD : Hid (∀ k, Sh.word (digB L (4 * k)) (digB L (4 * k + 1)) (digB L (4 * k + 2)) (digB L (4 * k + 3)) = L.getD k 0) := word_dig L
        clear HE HST
        generalize hgd : (fun j => L.getD j 0) = gd at *
        have hgd0 : ∀ j, L.getD j 0 = gd j := fun j => by rw [← hgd]
        simp only [hgd0] at HVG HWD
        clear hgd hgd0
        generalize digB L = db at *
        generalize (wcells L).toArray = vc at *
        generalize (bcells D).toArray = dc at *
        go_wp2_with fail
        go_loopw [11] (fun i wq => ∃ k : Nat, k ≤ 8 ∧ i = .int .i64 k ∧ Hid (wq.heap[w5.heap.size]? = some (.cells dc 37 (0, 0))) ∧ Hid (wq.heap[w4.heap.size]? = some (.cells vc 23 (0, 0))) ∧ Hid (Below w.heap.size w wq)) (fun i _ => 8 - (intOf i).toNat)
        case atStart => exact ⟨0, by omega, rfl, HD0, HV0, HBZ⟩
        case round =>
          obtain ⟨k, hk, rfl, h10, h6, hBq⟩ := hrel
          obtain ⟨wq, rfl⟩ : ∃ wq : World, wq = wr := ⟨_, rfl⟩
          by_cases hlt : k < 8
          · as_aux_lemma =>
              have c6 := (cell_of_row wq w4.heap.size k _ _ (0, 0) h6.out).trans (HVG.out k hlt)
              have c0 := (cell_of_row wq w5.heap.size (4 * k) _ _ (0, 0) h10.out).trans (HDG.out (4 * k) (by omega))
              have c1 := (cell_of_row wq w5.heap.size (4 * k + 1) _ _ (0, 0) h10.out).trans (HDG.out (4 * k + 1) (by omega))
              have c2 := (cell_of_row wq w5.heap.size (4 * k + 2) _ _ (0, 0) h10.out).trans (HDG.out (4 * k + 2) (by omega))
              have c3 := (cell_of_row wq w5.heap.size (4 * k + 3) _ _ (0, 0) h10.out).trans (HDG.out (4 * k + 3) (by omega))
              have HWK := Lib.hid (HWD.out k)
              have HB10 : Hid (∀ n, Below w.heap.size w (wq.drewN n)) := fun n => below_drewN hBq.out n
              generalize db (4 * k) = b0 at *
              generalize db (4 * k + 1) = b1 at *
              generalize db (4 * k + 2) = b2 at *
              generalize db (4 * k + 3) = b3 at *
              generalize gd k = x at *
              have q0 : (0 : Int) ≤ k := by omega
              have q1 : (k : Int) < 8 := by omega
              have p0 : (0 : Int) ≤ 4 * (k : Int) := by omega
              have p1 : 4 * (k : Int) < 32 := by omega
              have p2 : (0 : Int) ≤ 4 * (k : Int) + 1 := by omega
              have p3 : 4 * (k : Int) + 1 < 32 := by omega
              have p4 : (0 : Int) ≤ 4 * (k : Int) + 2 := by omega
              have p5 : 4 * (k : Int) + 2 < 32 := by omega
              have p6 : (0 : Int) ≤ 4 * (k : Int) + 3 := by omega
              have p7 : 4 * (k : Int) + 3 < 32 := by omega
              have t0 : (4 * (k : Int)).toNat = 4 * k := by omega
              have t1 : (4 * (k : Int) + 1).toNat = 4 * k + 1 := by omega
              have t2 : (4 * (k : Int) + 2).toNat = 4 * k + 2 := by omega
              have t3 : (4 * (k : Int) + 3).toNat = 4 * k + 3 := by omega
              have e0 : IntKind.i64.wrap (4 * (k : Int)) = 4 * (k : Int) := IntWalk.i64_in _ (by omega)
              have e1 : IntKind.i64.wrap (4 * (k : Int) + 1) = 4 * (k : Int) + 1 := IntWalk.i64_in _ (by omega)
              have e2 : IntKind.i64.wrap (4 * (k : Int) + 2) = 4 * (k : Int) + 2 := IntWalk.i64_in _ (by omega)
              have e3 : IntKind.i64.wrap (4 * (k : Int) + 3) = 4 * (k : Int) + 3 := IntWalk.i64_in _ (by omega)
              clear HWD HVG HDG
              go_upto_region 21 with fail
              go_region_held3 (fun w' => w'.cell? ⟨w5.heap.size, 4 * k, none⟩ = some (.int .u8 (b0.toNat : Int)) ∧ w'.cell? ⟨w5.heap.size, 4 * k + 1, none⟩ = some (.int .u8 (b1.toNat : Int)) ∧ w'.cell? ⟨w5.heap.size, 4 * k + 2, none⟩ = some (.int .u8 (b2.toNat : Int)) ∧ w'.cell? ⟨w5.heap.size, 4 * k + 3, none⟩ = some (.int .u8 (b3.toNat : Int))) (first | exact ⟨c0, c1, c2, c3⟩ | go_keep) ((fail))
              rename_i hHeld
              clear hHeld
              rw [word_or, HWK.out]
              clear e0 e1 e2 e3 t0 t1 t2 t3 p0 p1 p2 p3 p4 p5 p6 p7
              go_wp2_with fail
              go_roundw
              case rel => exact ⟨k + 1, by omega, by go_num, h10, h6, Lib.hid (HB10.out 1)⟩
              case measure => simp [intOf]; omega
          · go_wp2_with fail
            refine (known_any _).mono ?_
            rintro e w8 ⟨rfl, hb8⟩
            have HB8 := Lib.hid (hBq.out.trans (hb8.mono hBq.out.size))
            clear hb8
            go_wp2_with fail
            go_ret
            exact ⟨rfl, HB8.out⟩
  · go_enter Try.func7, Try.ntmps7
    go_wp2_with fail
    refine (known_any _).mono ?_
    rintro e w8 ⟨rfl, hb8⟩
    go_wp2_with fail
    go_ret
    exact ⟨rfl, hb8⟩
end Go.Proofs.Ytjglboejgmplgaa
