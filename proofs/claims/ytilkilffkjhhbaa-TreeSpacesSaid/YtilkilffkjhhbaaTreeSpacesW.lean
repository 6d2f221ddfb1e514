/-
  What a text's tokens say hangs on no blanks between them: the walk.
-/
import Derived.Test.YtilkilffkjhhbaaTrK
import Derived.Test.YtilkilffkjhhbaaTrL3
import Derived.Test.YtilkilffkjhhbaaTrSame
import Derived.Test.YtilkilffkjhhbaaTrPse
namespace Go.Proofs.Ytilkilffkjhhbaa
set_option maxRecDepth 20000
set_option linter.unusedVariables false
open Go.RowKit Tr Mem

theorem jn_append : ∀ (a b : List Lx.Tok) (i : Nat), jn i (a ++ b) = jn i a ++ jn (i + a.length) b
  | [], b, i => by simp [jn]
  | t :: r, b, i => by
    have := jn_append r b (i + 1)
    have e : i + 1 + r.length = i + (t :: r).length := by simp; omega
    rw [List.cons_append, jn, jn, this, e]
    simp
theorem jn_take (ts : List Lx.Tok) (j : Nat) : (jn 0 (ts.take j)).length ≤ (jn 0 ts).length := by
  have h := jn_append (ts.take j) (ts.drop j) 0
  rw [List.take_append_drop] at h
  rw [h, List.length_append]
  omega
theorem jn_next (ts : List Lx.Tok) (j : Nat) (h : j < ts.length) : jn 0 (ts.take (j + 1)) = jn 0 (ts.take j) ++ ((ts[j]'h).text ++ sep j) := by
  rw [List.take_succ_eq_append_getElem h, jn_snoc]
  have e : (ts.take j).length = j := by rw [List.length_take]; omega
  rw [e, Nat.zero_add]
set_option maxRecDepth 100000 in
set_option maxHeartbeats 8000000 in
theorem treeSpaces_walk (w : World) (l : Lx.Bs) (hl : l.length ≤ maxLen) :
    Calls Try.prog 6 #[.string ⟨l.toArray⟩] w fun e w' => e = .returned (.bool true) ∧ Below w.heap.size w w' := by
  have HK := Lib.hid (fun W => known_any W)
  have hl9 : l.length ≤ 9223372036854775807 := by unfold maxLen at hl; omega
  by_cases hbig : 1500 < l.length
  · clear hl
    go_enter Try.func6, Try.ntmps6
    go_wp2_with fail
    refine (HK.out _).mono ?_
    rintro e w1 ⟨rfl, hb1⟩
    have HB1 := Lib.hid hb1
    clear hb1
    go_wp2_with fail
    go_ret
    exact ⟨rfl, HB1.out⟩
  have HSC := Lib.hid (fun W => lexscan l hl W)
  unfold ScanGives at HSC
  by_cases he : (Lx.scan l).2.1 = 0
  rotate_left
  · have hne : ((Lx.scan l).2.1 != 0) = true := by simpa using he
    generalize Lx.scan l = sc at *
    obtain ⟨ts, se, sp⟩ := sc
    dsimp only at *
    clear hl
    go_enter Try.func6, Try.ntmps6
    go_wp2_with fail
    refine (HSC.out _).mono ?_
    rintro e w1 ⟨v, rfl, ho, hb1⟩
    have HB1 := Lib.hid hb1
    clear hb1 ho
    go_wp2_with fail
    refine (HK.out _).mono ?_
    rintro e w2 ⟨rfl, hb2⟩
    have HB2 := Lib.hid (HB1.out.trans (hb2.mono HB1.out.size))
    clear hb2
    go_wp2_with fail
    go_ret
    exact ⟨rfl, HB2.out⟩
  · obtain ⟨hj4, hj0, hp1, hp2⟩ := spaces (by omega) he
    have HP1 := Lib.hid (fun W => parse_any l hl W)
    have HP2 := Lib.hid (fun W => parse_any (jn 0 (Lx.scan l).1) (by unfold maxLen; omega) W)
    have HFP := Lib.hid (parse_pgFit l)
    unfold ParsePost at HP1 HP2
    rw [← hp1, ← hp2] at HP2
    have hjt := jn_take (Lx.scan l).1
    have hjn := jn_next (Lx.scan l).1
    have hln := scan_len l
    clear hj0 hp1 hp2
    generalize (parse l).1 = pg at *
    generalize (parse l).2.1 = pe at *
    generalize (parse l).2.2 = pp at *
    generalize (parse (jn 0 (Lx.scan l).1)).2.2 = pp2 at *
    generalize Lx.scan l = sc at *
    obtain ⟨ts, se, sp⟩ := sc
    dsimp only at *
    subst he
    have HJT := Lib.hid hjt
    have HJN := Lib.hid hjn
    have HSAME := Lib.hid (fun K K' L M W h1 h2 => refsame_any pg pg L M K K' W h1 h2 HFP.out HFP.out)
    simp only [samePg_refl] at HSAME
    clear hjt hjn hl
    obtain ⟨tx, htx⟩ : ∃ t, t = jn 0 ts := ⟨_, rfl⟩
    rw [← htx] at HP2 hj4 HJT
    have HTX := Lib.hid htx
    clear htx
    go_enter Try.func6, Try.ntmps6
    go_wp2_with fail
    refine (HSC.out _).mono ?_
    rintro e w1 ⟨v, rfl, ho, hb1⟩
    obtain ⟨A, c, rfl⟩ := own_slice ho
    have HTK := Lib.hid (TokAt.of_own ho)
    have HB1 := Lib.hid hb1
    clear hb1 ho
    go_wp2_with fail
    go_loopw [6, 7] (fun v i wr => ∃ (j : Nat) (d : Lx.Bs), j ≤ ts.length ∧ i = .int .i64 j ∧ v = .string ⟨d.toArray⟩ ∧ d.length ≤ 4000 ∧ Hid (d = jn 0 (ts.take j)) ∧ Below w1.heap.size w1 wr) (fun _ i _ => ts.length - (intOf i).toNat)
    case atStart => exact ⟨0, [], Nat.zero_le _, rfl, by rfl, by simp, by rfl, Below.refl _ _⟩
    case round =>
      obtain ⟨j, d, hj, rfl, rfl, hd4, HD, hb⟩ := hrel
      by_cases hlt : j < ts.length
      · obtain ⟨b, off, rfl, t0, t1, -⟩ := HTK.out j hlt
        have hbl := World.block_lt_of_cell? _ _ t0
        simp only at hbl
        have c1 := (hb.cell (p := ⟨b, off + j * 4 + 1, none⟩) hbl).trans t1
        have hs1 := HJN.out j hlt
        have hs2 := HJT.out (j + 1)
        rw [hs1, ← HD.out] at hs2
        rw [← HD.out] at hs1
        generalize ts[j]'hlt = t at *
        obtain ⟨tk, tt, tn, tp⟩ := t
        dsimp only at *
        clear t0 t1
        by_cases h3 : j % 3 = 0
        · have hm : (((j : Int) % 3) == 0) = true := by simp; omega
          have hsp : sep j = [32, 9] := by unfold sep; rw [if_pos h3]
          rw [hsp] at hs1 hs2
          have hd5 : d.length + tt.length + 2 ≤ 4000 := by simp at hs2; omega
          have HS := Lib.hid hs1
          clear hs1 hs2 hsp
          go_wp2_with fail
          go_roundw
          case rel => exact ⟨j + 1, d ++ (tt ++ [32, 9]), by omega, by go_num, str3 d tt [32, 9] _ (by simp), by simp; omega, by unfold RowKit.Hid; rw [HS.out], hb⟩
          case measure => simp [intOf]; omega
        · have hm : (((j : Int) % 3) == 0) = false := by simp; omega
          have hsp : sep j = [10] := by unfold sep; rw [if_neg h3]
          rw [hsp] at hs1 hs2
          have hd5 : d.length + tt.length + 1 ≤ 4000 := by simp at hs2; omega
          have HS := Lib.hid hs1
          clear hs1 hs2 hsp
          go_wp2_with fail
          go_roundw
          case rel => exact ⟨j + 1, d ++ (tt ++ [10]), by omega, by go_num, str3 d tt [10] _ (by simp), by simp; omega, by unfold RowKit.Hid; rw [HS.out], hb⟩
          case measure => simp [intOf]; omega
      · obtain rfl : j = ts.length := by omega
        have hdt : d = tx := by rw [HD.out, List.take_length, HTX.out]
        subst hdt
        have HB2 := Lib.hid (HB1.out.trans (hb.mono HB1.out.size))
        clear HTX HD hb
        go_wp2_with fail
        refine (HP1.out _).mono ?_
        rintro e w3 ⟨L, rfl, hpa, hb3⟩
        have HPA := Lib.hid hpa
        have HB3 := Lib.hid (HB2.out.trans (hb3.mono HB2.out.size))
        clear hpa hb3
        unfold pgAgg
        dsimp only
        go_upto_region 15 with (fail)
        obtain ⟨W4, hW4⟩ : ∃ W, W = w3.alloc (.cells #[.string ⟨pg.name.toArray⟩, .slice L.ai pg.ins.length L.ci, .slice L.ao pg.outs.length L.co, .slice L.al pg.locals.length L.cl, .slice L.ae pg.eqs.length L.ce] 26) := ⟨_, rfl⟩
        rw [← hW4]
        have hb4 : Below w3.heap.size w3 W4 := by rw [hW4]; exact (Below.refl _ _).alloc (Nat.le_refl _) _
        have HR4 : Hid (W4.heap[w3.heap.size]? = some (.cells #[.string ⟨pg.name.toArray⟩, .slice L.ai pg.ins.length L.ci, .slice L.ao pg.outs.length L.co, .slice L.al pg.locals.length L.cl, .slice L.ae pg.eqs.length L.ce] 26 (0, 0))) := by rw [hW4]; exact heap_alloc_new _ _
        have hs4 : w3.heap.size < W4.heap.size := by rw [hW4]; simp
        have HPA4 := Lib.hid (HPA.out.below hb4)
        have HB4 := Lib.hid (HB3.out.trans (hb4.mono HB3.out.size))
        clear hW4 hb4 HPA HB3
        go_wp2_with fail
        refine (HP2.out _).mono ?_
        rintro e w5 ⟨M, rfl, hpb, hb5⟩
        have HR5 := Lib.hid ((hb5.block _ hs4).trans HR4.out)
        have HPA5 := Lib.hid (HPA4.out.below hb5)
        have HPB5 := Lib.hid hpb
        have HB5 := Lib.hid (HB4.out.trans (hb5.mono HB4.out.size))
        have hs5 : w3.heap.size < w5.heap.size := Nat.lt_of_lt_of_le hs4 hb5.size
        clear hb5 hpb HR4 HPA4 HB4
        unfold pgAgg
        dsimp only
        go_upto_region 16 with (fail)
        obtain ⟨W6, hW6⟩ : ∃ W, W = w5.alloc (.cells #[.string ⟨pg.name.toArray⟩, .slice M.ai pg.ins.length M.ci, .slice M.ao pg.outs.length M.co, .slice M.al pg.locals.length M.cl, .slice M.ae pg.eqs.length M.ce] 26) := ⟨_, rfl⟩
        rw [← hW6]
        have hb6 : Below w5.heap.size w5 W6 := by rw [hW6]; exact (Below.refl _ _).alloc (Nat.le_refl _) _
        have hr6 : W6.heap[w5.heap.size]? = some (.cells #[.string ⟨pg.name.toArray⟩, .slice M.ai pg.ins.length M.ci, .slice M.ao pg.outs.length M.co, .slice M.al pg.locals.length M.cl, .slice M.ae pg.eqs.length M.ce] 26 (0, 0)) := by rw [hW6]; exact heap_alloc_new _ _
        have hr5 := (hb6.block _ hs5).trans HR5.out
        have HPA6 := Lib.hid (HPA5.out.below hb6)
        have HPB6 := Lib.hid (HPB5.out.below hb6)
        have HB6 := Lib.hid (HB5.out.trans (hb6.mono HB5.out.size))
        have HC := Lib.hid (HSAME.out _ _ L M _ HPA6.out HPB6.out)
        unfold pgAgg at HC
        clear hW6 hb6 HR5 HPA5 HPB5 HB5
        have k0 : W6.cell? ⟨w3.heap.size, 0, none⟩ = some (.string ⟨pg.name.toArray⟩) := cell_of_row W6 w3.heap.size 0 _ _ _ hr5
        have q0 : W6.cell? ⟨w5.heap.size, 0, none⟩ = some (.string ⟨pg.name.toArray⟩) := cell_of_row W6 w5.heap.size 0 _ _ _ hr6
        obtain ⟨⟨k1, k2, k3, k4⟩, -⟩ := row5 hr5
        obtain ⟨⟨q1, q2, q3, q4⟩, -⟩ := row5 hr6
        clear hr5 hr6
        go_wp2_with fail
        refine HC.out.mono ?_
        rintro e w7 ⟨rfl, hb7⟩
        have HB7 := Lib.hid (HB6.out.trans (hb7.mono HB6.out.size))
        clear hb7
        go_wp2_with fail
        refine (HK.out _).mono ?_
        rintro e w8 ⟨rfl, hb8⟩
        have HB8 := Lib.hid (HB7.out.trans (hb8.mono HB7.out.size))
        clear hb8
        go_wp2_with fail
        go_ret
        exact ⟨rfl, HB8.out⟩
end Go.Proofs.Ytilkilffkjhhbaa
