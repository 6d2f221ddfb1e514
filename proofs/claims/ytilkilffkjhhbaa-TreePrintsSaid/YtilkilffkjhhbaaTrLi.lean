/-
  The reference's Light: a small program.
-/
import Derived.Test.YtilkilffkjhhbaaTrLiR
import Derived.Test.YtilkilffkjhhbaaTrSame
namespace Go.Proofs.Ytilkilffkjhhbaa
set_option maxRecDepth 20000
set_option linter.unusedVariables false
open Go.RowKit Tr Mem

/-- what Light says of a program when it says yes -/
structure LightP (p : Pg) : Prop where
  ins : p.ins.length ≤ 60
  outs : p.outs.length ≤ 60
  locals : p.locals.length ≤ 60
  eqs : p.eqs.length ≤ 60
  name : p.name.length ≤ 2000
  small : ∀ q ∈ p.eqs, size q.first < 300 ∧ size q.e < 300
set_option maxRecDepth 100000 in
set_option maxHeartbeats 16000000 in
theorem light_any (p : Pg) (L : Lie) (K : Nat → Prop) (w : World) (hA : PgAt w K p L) (hf : PgFit p) :
    Calls Try.prog 15 #[pgAgg p L] w fun e w' => ∃ b, e = .returned (.bool b) ∧ (b = true → LightP p) ∧ Below w.heap.size w w' := by
  obtain ⟨P, hP⟩ : ∃ P, P = LightP p := ⟨_, rfl⟩
  rw [← hP]
  obtain ⟨pn, pi, po, pl, pe⟩ := p
  have HP : Hid (pi.length ≤ 60 → po.length ≤ 60 → pl.length ≤ 60 → pe.length ≤ 60 → pn.length ≤ 2000 → (∀ k (hk : k < pe.length), size (pe[k]'hk).first < 300 ∧ size (pe[k]'hk).e < 300) → P) := fun h1 h2 h3 h4 h5 h6 => by
    rw [hP]
    refine ⟨h1, h2, h3, h4, h5, fun q hq => ?_⟩
    obtain ⟨k, hk, rfl⟩ := List.getElem_of_mem hq
    exact h6 k hk
  obtain ⟨ai, ci, ao, co, al, cl, ae, ce⟩ := L
  obtain ⟨-, -, -, hae⟩ := hA
  obtain ⟨hfn, ⟨hni, -⟩, ⟨hno, -⟩, ⟨hnl, -⟩, ⟨hne, hfe⟩⟩ := hf
  dsimp only at *
  unfold maxLen at hni hno hnl hne hfn
  have HAE := Lib.hid hae
  have HFE := Lib.hid hfe
  have HPT := Lib.hid (fun x A c W h hf => refparts_any K 300 x 300 (Nat.le_refl _) (by decide) (by decide) A c W h hf)
  clear hae hfe hP
  unfold pgAgg
  dsimp only
  go_enter Try.func15, Try.ntmps15
  go_upto_region 1 with (fail)
  obtain ⟨W0, hW0⟩ : ∃ W0, W0 = w.alloc (.cells #[.string ⟨pn.toArray⟩, .slice ai pi.length ci, .slice ao po.length co, .slice al pl.length cl, .slice ae pe.length ce] 26) := ⟨_, rfl⟩
  rw [← hW0]
  have HP0 : Hid (W0.heap[w.heap.size]? = some (.cells #[.string ⟨pn.toArray⟩, .slice ai pi.length ci, .slice ao po.length co, .slice al pl.length cl, .slice ae pe.length ce] 26 (0, 0))) := by rw [hW0]; exact heap_alloc_new _ _
  have HB0 : Hid (Below w.heap.size w W0) := by rw [hW0]; exact (Below.refl _ _).alloc (Nat.le_refl _) _
  have hs0 : w.heap.size < W0.heap.size := by rw [hW0]; simp
  clear hW0
  obtain ⟨⟨n1, n2, n3, n4⟩, -⟩ := row5 HP0.out
  have n0 : W0.cell? ⟨w.heap.size, 0, none⟩ = some (.string ⟨pn.toArray⟩) := cell_of_row W0 w.heap.size 0 _ _ _ HP0.out
  by_cases hgpi : 60 < pi.length
  · have hd : decide ((60 : Int) < (pi.length : Int)) = true := by simp; omega
    go_wp2_with fail
    go_ret
    exact ⟨false, rfl, fun h => (by cases h), HB0.out⟩
  have hdpi : decide ((60 : Int) < (pi.length : Int)) = false := by simp; omega
  by_cases hgpo : 60 < po.length
  · have hd : decide ((60 : Int) < (po.length : Int)) = true := by simp; omega
    go_wp2_with fail
    go_ret
    exact ⟨false, rfl, fun h => (by cases h), HB0.out⟩
  have hdpo : decide ((60 : Int) < (po.length : Int)) = false := by simp; omega
  by_cases hgpl : 60 < pl.length
  · have hd : decide ((60 : Int) < (pl.length : Int)) = true := by simp; omega
    go_wp2_with fail
    go_ret
    exact ⟨false, rfl, fun h => (by cases h), HB0.out⟩
  have hdpl : decide ((60 : Int) < (pl.length : Int)) = false := by simp; omega
  by_cases hgpe : 60 < pe.length
  · have hd : decide ((60 : Int) < (pe.length : Int)) = true := by simp; omega
    go_wp2_with fail
    go_ret
    exact ⟨false, rfl, fun h => (by cases h), HB0.out⟩
  have hdpe : decide ((60 : Int) < (pe.length : Int)) = false := by simp; omega
  by_cases hgpn : 2000 < pn.length
  · have hd : decide ((2000 : Int) < (pn.length : Int)) = true := by simp; omega
    go_wp2_with fail
    go_ret
    exact ⟨false, rfl, fun h => (by cases h), HB0.out⟩
  have hdpn : decide ((2000 : Int) < (pn.length : Int)) = false := by simp; omega
  replace HP := Lib.hid (HP.out (by omega) (by omega) (by omega) (by omega) (by omega))
  go_wp2_with fail
  clear hdpi hdpo hdpl hdpe hdpn hgpi hgpo hgpl hgpn hni hno hnl hne hfn n0 n1 n2 n3 n4
  go_loopw [3, 4] (fun n i wr => ∃ j m : Nat, j ≤ pe.length ∧ m ≤ 3000 ∧ n = .int .i64 m ∧ i = .int .i64 j ∧ Hid (∀ k (hk : k < pe.length), k < j → size (pe[k]'hk).first < 300 ∧ size (pe[k]'hk).e < 300) ∧ Below W0.heap.size W0 wr) (fun _ i _ => pe.length - (intOf i).toNat)
  case atStart => exact ⟨0, 0, Nat.zero_le _, Nat.zero_le _, rfl, rfl, fun k _ h => by omega, Below.refl _ _⟩
  case round =>
    obtain ⟨j, m, hj, hm, rfl, rfl, HJ, hb⟩ := hrel
    have hp1 := (hb.block _ hs0).trans HP0.out
    obtain ⟨⟨n1, n2, n3, n4⟩, -⟩ := row5 hp1
    clear n1 n2 n3 hp1
    by_cases hlt : j < pe.length
    · obtain ⟨b, off, AF, cF, AE, cE, e1, hbl, hx1, hx2, c0, c1, c2, c3, c4, c5, c6, c7, c8, c9⟩ := HAE.out.in_ (HB0.out.trans (hb.mono HB0.out.size)) j hlt
      have hf1 := HFE.out _ (List.getElem_mem hlt)
      have HYES : Hid (size (pe[j]'hlt).first < 300 → size (pe[j]'hlt).e < 300 → ∀ k (hk : k < pe.length), k < j + 1 → size (pe[k]'hk).first < 300 ∧ size (pe[k]'hk).e < 300) := fun h1 h2 k hk hkj => by
        by_cases e : k = j
        · subst e; exact ⟨h1, h2⟩
        · exact HJ.out k hk (by omega)
      generalize pe[j]'hlt = q at *
      clear HJ
      have HQ1 := Lib.hid (fun W h => HPT.out q.e AE cE W h hf1.2.2)
      have HQ2 := Lib.hid (fun W h => HPT.out q.first AF cF W h hf1.2.1)
      unfold exAgg at HQ1 HQ2
      obtain ⟨se, hse⟩ : ∃ se, se = min (size q.e) 300 := ⟨_, rfl⟩
      obtain ⟨sf, hsf⟩ : ∃ sf, sf = min (size q.first) 300 := ⟨_, rfl⟩
      rw [← hse] at HQ1
      rw [← hsf] at HQ2
      have hse3 : se ≤ 300 := by omega
      have hsf3 : sf ≤ 300 := by omega
      have HLE : Hid (se < 300 → size q.e < 300) := fun h => by omega
      have HLF : Hid (sf < 300 → size q.first < 300) := fun h => by omega
      have HX1 := Lib.hid hx1
      have HX2 := Lib.hid hx2
      clear hx1 hx2 hf1 hse hsf
      subst e1
      go_upto_region 7 with (fail)
      refine wp_region_any (by kernel_rfl) ?_
      refine wpAny_ops (ops' := lgtOps) (by kernel_rfl) ?_
      refine lgtRegion _ _ (by simp) w.heap.size b off pe.length ce j m se sf q AF AE cF cE hlt hm hse3 hsf3 n4 c2 c3 c4 c5 c6 c7 c8 c9 (fun W hW => HQ1.out W (HX2.out.below hW (Nat.le_refl _))) (fun W hW => HQ2.out W (HX1.out.below hW (Nat.le_refl _))) rfl rfl rfl ?_
      intro wq hbq
      have hq := hb.trans (hbq.mono hb.size)
      have HXE := Lib.hid (HX2.out.below hbq (Nat.le_refl _))
      have HXF := Lib.hid (HX1.out.below hbq (Nat.le_refl _))
      replace c0 := (hbq.cell (p := ⟨b, off + j * 10, none⟩) (by have := hb.size; have := HB0.out.size; simp only; omega)).trans c0
      replace c2 := (hbq.cell (p := ⟨b, off + j * 10 + 2, none⟩) (by have := hb.size; have := HB0.out.size; simp only; omega)).trans c2
      replace c3 := (hbq.cell (p := ⟨b, off + j * 10 + 3, none⟩) (by have := hb.size; have := HB0.out.size; simp only; omega)).trans c3
      replace c4 := (hbq.cell (p := ⟨b, off + j * 10 + 4, none⟩) (by have := hb.size; have := HB0.out.size; simp only; omega)).trans c4
      replace c5 := (hbq.cell (p := ⟨b, off + j * 10 + 5, none⟩) (by have := hb.size; have := HB0.out.size; simp only; omega)).trans c5
      replace c6 := (hbq.cell (p := ⟨b, off + j * 10 + 6, none⟩) (by have := hb.size; have := HB0.out.size; simp only; omega)).trans c6
      replace c7 := (hbq.cell (p := ⟨b, off + j * 10 + 7, none⟩) (by have := hb.size; have := HB0.out.size; simp only; omega)).trans c7
      replace c8 := (hbq.cell (p := ⟨b, off + j * 10 + 8, none⟩) (by have := hb.size; have := HB0.out.size; simp only; omega)).trans c8
      replace c9 := (hbq.cell (p := ⟨b, off + j * 10 + 9, none⟩) (by have := hb.size; have := HB0.out.size; simp only; omega)).trans c9
      have hp1 := (hq.block _ hs0).trans HP0.out
      obtain ⟨⟨n1, n2, n3, n4⟩, -⟩ := row5 hp1
      clear n1 n2 n3 hp1 c0 c1 hbq HX1 HX2 hb
      have HQB := Lib.hid hq
      clear hq
      simp only [lgtSlots, List.foldl_cons, List.foldl_nil]
      simp only [lgtVal]
      simp only [Act.put, List.setIfInBounds_toArray, List.set_cons_zero, List.set_cons_succ]
      obtain ⟨m', hm'⟩ : ∃ m' : Nat, (m : Int) + (se : Int) + (sf : Int) = (m' : Int) := ⟨m + se + sf, by omega⟩
      rw [hm']
      clear hm'
      by_cases hov : 3000 < m'
      · have hd : decide ((3000 : Int) < (m' : Int)) = true := by simp; omega
        go_wp2_with fail
        go_ret
        exact ⟨false, rfl, fun h => (by cases h), HB0.out.trans (HQB.out.mono HB0.out.size)⟩
      have hd : decide ((3000 : Int) < (m' : Int)) = false := by simp; omega
      go_wp2_with fail
      refine (HQ1.out _ HXE.out).mono ?_
      rintro e w1 ⟨rfl, hb1⟩
      have HXF1 := Lib.hid (HXF.out.below hb1 (Nat.le_refl _))
      have hq1 := HQB.out.trans (hb1.mono HQB.out.size)
      replace c2 := (hb1.cell (p := ⟨b, off + j * 10 + 2, none⟩) (by have := HQB.out.size; have := HB0.out.size; simp only; omega)).trans c2
      replace c3 := (hb1.cell (p := ⟨b, off + j * 10 + 3, none⟩) (by have := HQB.out.size; have := HB0.out.size; simp only; omega)).trans c3
      replace c4 := (hb1.cell (p := ⟨b, off + j * 10 + 4, none⟩) (by have := HQB.out.size; have := HB0.out.size; simp only; omega)).trans c4
      replace c5 := (hb1.cell (p := ⟨b, off + j * 10 + 5, none⟩) (by have := HQB.out.size; have := HB0.out.size; simp only; omega)).trans c5
      replace c6 := (hb1.cell (p := ⟨b, off + j * 10 + 6, none⟩) (by have := HQB.out.size; have := HB0.out.size; simp only; omega)).trans c6
      replace c7 := (hb1.cell (p := ⟨b, off + j * 10 + 7, none⟩) (by have := HQB.out.size; have := HB0.out.size; simp only; omega)).trans c7
      replace c8 := (hb1.cell (p := ⟨b, off + j * 10 + 8, none⟩) (by have := HQB.out.size; have := HB0.out.size; simp only; omega)).trans c8
      replace c9 := (hb1.cell (p := ⟨b, off + j * 10 + 9, none⟩) (by have := HQB.out.size; have := HB0.out.size; simp only; omega)).trans c9
      have hp1 := (hq1.block _ hs0).trans HP0.out
      obtain ⟨⟨n1, n2, n3, n4⟩, -⟩ := row5 hp1
      have HQ1B := Lib.hid hq1
      clear n1 n2 n3 hp1 hb1 hq1 HQB HXE HXF
      by_cases hge : 300 ≤ se
      · have hd : decide ((300 : Int) ≤ (se : Int)) = true := by simp; omega
        go_wp2_with fail
        go_ret
        exact ⟨false, rfl, fun h => (by cases h), HB0.out.trans (HQ1B.out.mono HB0.out.size)⟩
      have hdg : decide ((300 : Int) ≤ (se : Int)) = false := by simp; omega
      replace HLE := Lib.hid (HLE.out (by omega))
      go_wp2_with fail
      refine (HQ2.out _ HXF1.out).mono ?_
      rintro e w2 ⟨rfl, hb2⟩
      have hq2 := HQ1B.out.trans (hb2.mono HQ1B.out.size)
      have HQ2B := Lib.hid hq2
      clear hb2 hq2 HQ1B HXF1 n4 c2 c3 c4 c5 c6 c7 c8 c9
      by_cases hgf : 300 ≤ sf
      · have hd : decide ((300 : Int) ≤ (sf : Int)) = true := by simp; omega
        go_wp2_with fail
        go_ret
        exact ⟨false, rfl, fun h => (by cases h), HB0.out.trans (HQ2B.out.mono HB0.out.size)⟩
      have hdf : decide ((300 : Int) ≤ (sf : Int)) = false := by simp; omega
      replace HLF := Lib.hid (HLF.out (by omega))
      go_wp2_with fail
      go_roundw
      case rel => exact ⟨j + 1, m', by omega, by omega, rfl, by go_num, HYES.out HLF.out HLE.out, HQ2B.out⟩
      case measure => simp [intOf]; omega
    · obtain rfl : j = pe.length := by omega
      have HT : Hid P := HP.out fun k hk => HJ.out k hk hk
      go_wp2_with fail
      go_ret
      exact ⟨true, rfl, fun _ => HT.out, HB0.out.trans (hb.mono HB0.out.size)⟩
end Go.Proofs.Ytilkilffkjhhbaa
