/-
  The function whole: can a program be?
-/
import Derived.Test.YtilkilffkjhhbaaTrRa
import Derived.Test.YtilkilffkjhhbaaTrB
namespace Go.Proofs.Ytilkilffkjhhbaa
set_option maxRecDepth 20000
set_option linter.unusedVariables false
open Go.RowKit Tr Mem

theorem EqsAt.in_ {w wr : World} {K : Nat → Prop} {A : Option Addr} {l : List Eqn} (h : EqsAt w K A l) (hb : Below w.heap.size w wr) (i : Nat) (hi : i < l.length) : ∃ b off AF cF AE cE, A = some ⟨b, off, none⟩ ∧ b < w.heap.size ∧ At wr K (l[i]'hi).first AF ∧ At wr K (l[i]'hi).e AE ∧
    wr.cell? ⟨b, off + i * 10, none⟩ = some (.string ⟨(l[i]'hi).name.toArray⟩) ∧ wr.cell? ⟨b, off + i * 10 + 1, none⟩ = some (.int .i64 (l[i]'hi).delay) ∧
    wr.cell? ⟨b, off + i * 10 + 2, none⟩ = some (.int .i64 (l[i]'hi).first.kind) ∧ wr.cell? ⟨b, off + i * 10 + 3, none⟩ = some (.int .i32 (l[i]'hi).first.n) ∧ wr.cell? ⟨b, off + i * 10 + 4, none⟩ = some (.string ⟨(l[i]'hi).first.name.toArray⟩) ∧ wr.cell? ⟨b, off + i * 10 + 5, none⟩ = some (.slice AF (l[i]'hi).first.sub.length cF) ∧
    wr.cell? ⟨b, off + i * 10 + 6, none⟩ = some (.int .i64 (l[i]'hi).e.kind) ∧ wr.cell? ⟨b, off + i * 10 + 7, none⟩ = some (.int .i32 (l[i]'hi).e.n) ∧ wr.cell? ⟨b, off + i * 10 + 8, none⟩ = some (.string ⟨(l[i]'hi).e.name.toArray⟩) ∧ wr.cell? ⟨b, off + i * 10 + 9, none⟩ = some (.slice AE (l[i]'hi).e.sub.length cE) := by
  obtain ⟨b, off, AF, cF, AE, cE, rfl, h1, h2, h3⟩ := h i hi
  have g0 := h3 0 _ rfl
  have hl := World.block_lt_of_cell? _ _ g0
  simp only at hl
  have g : ∀ j v, (eqCells (l[i]'hi) AF cF AE cE)[j]? = some v → wr.cell? ⟨b, off + i * 10 + j, none⟩ = some v := fun j v hv => (hb.cell (p := ⟨b, off + i * 10 + j, none⟩) hl).trans (h3 j v hv)
  exact ⟨b, off, AF, cF, AE, cE, rfl, hl, h1.below hb (Nat.le_refl _), h2.below hb (Nat.le_refl _), g 0 _ rfl, g 1 _ rfl, g 2 _ rfl, g 3 _ rfl, g 4 _ rfl, g 5 _ rfl, g 6 _ rfl, g 7 _ rfl, g 8 _ rfl, g 9 _ rfl⟩
theorem all_drop {α : Type} {l : List α} {f : α → Bool} {j : Nat} (h : j < l.length) : (l.drop j).all f = (f (l[j]'h) && (l.drop (j + 1)).all f) := by
  rw [List.drop_eq_getElem_cons h, List.all_cons]
theorem all_done {α : Type} {l : List α} {f : α → Bool} : (l.drop l.length).all f = true := by rw [List.drop_length]; rfl
theorem row10e {W : World} {g : Nat} {a b c d e f h i j k : Value} {t : TypeId} (hg : W.heap[g]? = some (.cells #[a, b, c, d, e, f, h, i, j, k] t (0, 0))) :
    W.cell? ⟨g, 0, none⟩ = some a ∧ W.cell? ⟨g, 1, none⟩ = some b ∧ W.cell? ⟨g, 2, none⟩ = some c ∧ W.cell? ⟨g, 3, none⟩ = some d ∧ W.cell? ⟨g, 4, none⟩ = some e ∧ W.cell? ⟨g, 5, none⟩ = some f ∧ W.cell? ⟨g, 6, none⟩ = some h ∧ W.cell? ⟨g, 7, none⟩ = some i ∧ W.cell? ⟨g, 8, none⟩ = some j ∧ W.cell? ⟨g, 9, none⟩ = some k :=
  ⟨cell_of_row W g 0 _ _ _ hg, cell_of_row W g 1 _ _ _ hg, cell_of_row W g 2 _ _ _ hg, cell_of_row W g 3 _ _ _ hg, cell_of_row W g 4 _ _ _ hg, cell_of_row W g 5 _ _ _ hg, cell_of_row W g 6 _ _ _ hg, cell_of_row W g 7 _ _ _ hg, cell_of_row W g 8 _ _ _ hg, cell_of_row W g 9 _ _ _ hg⟩
set_option maxRecDepth 100000 in
set_option maxHeartbeats 16000000 in
theorem whole_any (p : Pg) (L : Lie) (K : Nat → Prop) (w : World) (hA : PgAt w K p L) (hf : PgFit p) :
    Calls Try.prog 46 #[pgAgg p L] w fun e w' => e = .returned (.bool (whole p)) ∧ Below w.heap.size w w' := by
  obtain ⟨r, hr⟩ : ∃ r, r = whole p := ⟨_, rfl⟩
  rw [← hr]
  unfold whole at hr
  obtain ⟨pn, pi, po, pl, pe⟩ := p
  obtain ⟨ai, ci, ao, co, al, cl, ae, ce⟩ := L
  obtain ⟨hai, hao, hal, hae⟩ := hA
  obtain ⟨hfn, ⟨hni, hfi⟩, ⟨hno, hfo⟩, ⟨hnl, hfl⟩, ⟨hne, hfe⟩⟩ := hf
  dsimp only at *
  unfold maxLen at hni hno hnl hne
  obtain ⟨X3, hX3⟩ : ∃ X, X = pe.all eqOk := ⟨_, rfl⟩
  obtain ⟨X2, hX2⟩ : ∃ X, X = (pl.all (varOk true) && X3) := ⟨_, rfl⟩
  obtain ⟨X1, hX1⟩ : ∃ X, X = (po.all (varOk false) && X2) := ⟨_, rfl⟩
  have HR0 : Hid (r = (Lx.isName pn && (pi.all (varOk false) && X1))) := by unfold RowKit.Hid; rw [hr, hX1, hX2, hX3]; simp [Bool.and_assoc]
  have HX1 := Lib.hid hX1
  have HX2 := Lib.hid hX2
  have HX3 := Lib.hid hX3
  clear hr hX1 hX2 hX3
  have HN := Lib.hid (fun W => lexname pn hfn W)
  have HNM := Lib.hid (fun m h W => lexname m h W)
  have HVA := Lib.hid (fun v own h W => variable_any v own h W)
  have HRI := Lib.hid (fun x B A cap W h h2 => right_any x B A cap W h h2)
  have HLI := Lib.hid (fun x B A cap W h h2 => literal_any x B A cap W h h2)
  have HSE := Lib.hid (fun x A cap W h h2 => sameExpr_any K (fun _ => True) (size x) x Ex.zero (Nat.le_refl _) A none cap 0 W h (at_zero _ _ _) h2 fit_zero)
  have HFI := Lib.hid hfi
  have HFO := Lib.hid hfo
  have HFL := Lib.hid hfl
  have HFE := Lib.hid hfe
  have HAI := Lib.hid hai
  have HAO := Lib.hid hao
  have HAL := Lib.hid hal
  have HAE := Lib.hid hae
  clear hfi hfo hfl hfe hai hao hal hae hfn
  generalize hbn : Lx.isName pn = bn at *
  clear hbn
  unfold pgAgg
  dsimp only
  go_enter Try.func46, Try.ntmps46
  go_wp2_with fail
  obtain ⟨W0, hW0⟩ : ∃ W0, W0 = w.alloc (.cells #[.string ⟨pn.toArray⟩, .slice ai pi.length ci, .slice ao po.length co, .slice al pl.length cl, .slice ae pe.length ce] 26) := ⟨_, rfl⟩
  rw [← hW0]
  have hB0 : Below w.heap.size w W0 := by rw [hW0]; exact (Below.refl _ _).alloc (Nat.le_refl _) _
  have HP0 : Hid (W0.heap[w.heap.size]? = some (.cells #[.string ⟨pn.toArray⟩, .slice ai pi.length ci, .slice ao po.length co, .slice al pl.length cl, .slice ae pe.length ce] 26 (0, 0))) := by rw [hW0]; exact heap_alloc_new _ _
  have hs0 : w.heap.size < W0.heap.size := by rw [hW0]; simp
  have HB0 := Lib.hid hB0
  clear hW0 hB0
  refine (HN.out _).mono ?_
  rintro e w1 ⟨rfl, hb⟩
  have hpr := (hb.block _ hs0).trans HP0.out
  obtain ⟨⟨n1, n2, n3, n4⟩, -⟩ := row5 hpr
  clear hpr
  go_wp2_with fail
  go_loopw [3, 18] (fun v i wr => ∃ (j : Nat) (q : Bool), j ≤ pi.length ∧ i = .int .i64 j ∧ v = .bool q ∧ Hid (r = (q && ((pi.drop j).all (varOk false) && X1))) ∧ Below W0.heap.size W0 wr) (fun _ i _ => pi.length - (intOf i).toNat)
  case atStart => exact ⟨0, _, Nat.zero_le _, rfl, rfl, HR0.out, hb⟩
  case round =>
    clear hb
    obtain ⟨j, q, hj, rfl, rfl, HJ, hb⟩ := hrel
    by_cases hlt : j < pi.length
    · obtain ⟨b, off, rfl, hbl, c0, c1, c2, c3⟩ := HAI.out.in_ (HB0.out.trans (hb.mono HB0.out.size)) j hlt
      have HD := Lib.hid (all_drop (f := varOk false) hlt)
      have hfv := HFI.out _ (List.getElem_mem hlt)
      have HJ1 : Hid (r = ((q && varOk false (pi[j]'hlt)) && ((pi.drop (j + 1)).all (varOk false) && X1))) := by unfold RowKit.Hid; rw [HJ.out, HD.out]; simp [Bool.and_assoc]
      clear HD HJ
      generalize pi[j]'hlt = v at *
      have HC := Lib.hid (fun W => HVA.out v false hfv W)
      clear hfv
      generalize varOk false v = vo at *
      unfold varAgg at HC
      obtain ⟨vn, vt, vck, vcn⟩ := v
      dsimp only at *
      cases q
      · go_wp2_with fail
        go_roundw
        case rel => exact ⟨j + 1, false, by omega, by go_num, rfl, by unfold RowKit.Hid; rw [HJ1.out]; rfl, hb.alloc hb.size _⟩
        case measure => simp [intOf]; omega
      · go_wp2_with fail
        refine (HC.out _).mono ?_
        rintro e w21 ⟨rfl, hb1⟩
        have HB1 := Lib.hid ((hb.alloc hb.size _).trans (hb1.mono (by have := hb.size; simp; omega)))
        clear hb1
        go_wp2_with fail
        go_roundw
        case rel => exact ⟨j + 1, vo, by omega, by go_num, rfl, by unfold RowKit.Hid; rw [HJ1.out]; rfl, HB1.out⟩
        case measure => simp [intOf]; omega
    · obtain rfl : j = pi.length := by omega
      have HR1 : Hid (r = (q && X1)) := by unfold RowKit.Hid; rw [HJ.out, all_done, Bool.true_and]
      have hpr := (hb.block _ hs0).trans HP0.out
      obtain ⟨⟨n1, n2, n3, n4⟩, -⟩ := row5 hpr
      clear hpr HJ
      go_wp2_with fail
      go_loopw [3, 31] (fun v i wr => ∃ (j : Nat) (q : Bool), j ≤ po.length ∧ i = .int .i64 j ∧ v = .bool q ∧ Hid (r = (q && ((po.drop j).all (varOk false) && X2))) ∧ Below W0.heap.size W0 wr) (fun _ i _ => po.length - (intOf i).toNat)
      case atStart => exact ⟨0, _, Nat.zero_le _, rfl, rfl, by unfold RowKit.Hid; rw [HR1.out, HX1.out]; rfl, hb⟩
      case round =>
        clear hb
        obtain ⟨j, q, hj, rfl, rfl, HJ, hb⟩ := hrel
        by_cases hlt : j < po.length
        · obtain ⟨b, off, rfl, hbl, c0, c1, c2, c3⟩ := HAO.out.in_ (HB0.out.trans (hb.mono HB0.out.size)) j hlt
          have HD := Lib.hid (all_drop (f := varOk false) hlt)
          have hfv := HFO.out _ (List.getElem_mem hlt)
          have HJ1 : Hid (r = ((q && varOk false (po[j]'hlt)) && ((po.drop (j + 1)).all (varOk false) && X2))) := by unfold RowKit.Hid; rw [HJ.out, HD.out]; simp [Bool.and_assoc]
          clear HD HJ
          generalize po[j]'hlt = v at *
          have HC := Lib.hid (fun W => HVA.out v false hfv W)
          clear hfv
          generalize varOk false v = vo at *
          unfold varAgg at HC
          obtain ⟨vn, vt, vck, vcn⟩ := v
          dsimp only at *
          cases q
          · go_wp2_with fail
            go_roundw
            case rel => exact ⟨j + 1, false, by omega, by go_num, rfl, by unfold RowKit.Hid; rw [HJ1.out]; rfl, hb.alloc hb.size _⟩
            case measure => simp [intOf]; omega
          · go_wp2_with fail
            refine (HC.out _).mono ?_
            rintro e w31 ⟨rfl, hb1⟩
            have HB1 := Lib.hid ((hb.alloc hb.size _).trans (hb1.mono (by have := hb.size; simp; omega)))
            clear hb1
            go_wp2_with fail
            go_roundw
            case rel => exact ⟨j + 1, vo, by omega, by go_num, rfl, by unfold RowKit.Hid; rw [HJ1.out]; rfl, HB1.out⟩
            case measure => simp [intOf]; omega
        · obtain rfl : j = po.length := by omega
          have HR2 : Hid (r = (q && X2)) := by unfold RowKit.Hid; rw [HJ.out, all_done, Bool.true_and]
          have hpr := (hb.block _ hs0).trans HP0.out
          obtain ⟨⟨n1, n2, n3, n4⟩, -⟩ := row5 hpr
          clear hpr HJ
          go_wp2_with fail
          go_loopw [3, 44] (fun v i wr => ∃ (j : Nat) (q : Bool), j ≤ pl.length ∧ i = .int .i64 j ∧ v = .bool q ∧ Hid (r = (q && ((pl.drop j).all (varOk true) && X3))) ∧ Below W0.heap.size W0 wr) (fun _ i _ => pl.length - (intOf i).toNat)
          case atStart => exact ⟨0, _, Nat.zero_le _, rfl, rfl, by unfold RowKit.Hid; rw [HR2.out, HX2.out]; rfl, hb⟩
          case round =>
            clear hb
            obtain ⟨j, q, hj, rfl, rfl, HJ, hb⟩ := hrel
            by_cases hlt : j < pl.length
            · obtain ⟨b, off, rfl, hbl, c0, c1, c2, c3⟩ := HAL.out.in_ (HB0.out.trans (hb.mono HB0.out.size)) j hlt
              have HD := Lib.hid (all_drop (f := varOk true) hlt)
              have hfv := HFL.out _ (List.getElem_mem hlt)
              have HJ1 : Hid (r = ((q && varOk true (pl[j]'hlt)) && ((pl.drop (j + 1)).all (varOk true) && X3))) := by unfold RowKit.Hid; rw [HJ.out, HD.out]; simp [Bool.and_assoc]
              clear HD HJ
              generalize pl[j]'hlt = v at *
              have HC := Lib.hid (fun W => HVA.out v true hfv W)
              clear hfv
              generalize varOk true v = vo at *
              unfold varAgg at HC
              obtain ⟨vn, vt, vck, vcn⟩ := v
              dsimp only at *
              cases q
              · go_wp2_with fail
                go_roundw
                case rel => exact ⟨j + 1, false, by omega, by go_num, rfl, by unfold RowKit.Hid; rw [HJ1.out]; rfl, hb.alloc hb.size _⟩
                case measure => simp [intOf]; omega
              · go_wp2_with fail
                refine (HC.out _).mono ?_
                rintro e w41 ⟨rfl, hb1⟩
                have HB1 := Lib.hid ((hb.alloc hb.size _).trans (hb1.mono (by have := hb.size; simp; omega)))
                clear hb1
                go_wp2_with fail
                go_roundw
                case rel => exact ⟨j + 1, vo, by omega, by go_num, rfl, by unfold RowKit.Hid; rw [HJ1.out]; rfl, HB1.out⟩
                case measure => simp [intOf]; omega
            · obtain rfl : j = pl.length := by omega
              have HR3 : Hid (r = (q && X3)) := by unfold RowKit.Hid; rw [HJ.out, all_done, Bool.true_and]
              have hpr := (hb.block _ hs0).trans HP0.out
              obtain ⟨⟨n1, n2, n3, n4⟩, -⟩ := row5 hpr
              clear hpr HJ
              go_wp2_with fail
              go_loopw [3, 57] (fun v i wr => ∃ (j : Nat) (q : Bool), j ≤ pe.length ∧ i = .int .i64 j ∧ v = .bool q ∧ Hid (r = (q && (pe.drop j).all eqOk)) ∧ Below W0.heap.size W0 wr) (fun _ i _ => pe.length - (intOf i).toNat)
              case atStart => exact ⟨0, _, Nat.zero_le _, rfl, rfl, by unfold RowKit.Hid; rw [HR3.out, HX3.out]; rfl, hb⟩
              case round =>
                clear hb
                obtain ⟨j, q0, hj, rfl, rfl, HJ, hb⟩ := hrel
                by_cases hlt : j < pe.length
                · obtain ⟨b, off, AF, cF, AE, cE, rfl, hbl, hx1, hx2, c0, c1, c2, c3, c4, c5, c6, c7, c8, c9⟩ := HAE.out.in_ (HB0.out.trans (hb.mono HB0.out.size)) j hlt
                  have HD := Lib.hid (all_drop (f := eqOk) hlt)
                  have hfq := HFE.out _ (List.getElem_mem hlt)
                  have HJ1 : Hid (r = (q0 && (eqOk (pe[j]'hlt) && (pe.drop (j + 1)).all eqOk))) := by unfold RowKit.Hid; rw [HJ.out, HD.out]
                  clear HD HJ
                  generalize pe[j]'hlt = q at *
                  obtain ⟨X4, hX4⟩ : ∃ X, X = (pe.drop (j + 1)).all eqOk := ⟨_, rfl⟩
                  rw [← hX4] at HJ1
                  have HX4 := Lib.hid hX4
                  clear hX4
                  have HJ1' := HJ1.out
                  have hqd : eqOk q = (Lx.isName q.name && right q.e == 0 && (if q.delay = 1 then literal q.first else (q.delay == 0 || q.delay == 2) && same q.first Ex.zero)) := rfl
                  rw [hqd] at HJ1'
                  clear HJ1 hqd
                  have HJ1 := Lib.hid HJ1'
                  clear HJ1'
                  have HC1 := Lib.hid (fun W => HNM.out q.name hfq.1 W)
                  have HC2 := Lib.hid (fun W h => HRI.out q.e K AE cE W h hfq.2.2)
                  have HC3 := Lib.hid (fun W h => HLI.out q.first K AF cF W h hfq.2.1)
                  have HC4 := Lib.hid (fun W h => HSE.out q.first AF cF W h hfq.2.1)
                  have hdl : q.delay = 1 ∨ q.delay = 0 ∨ q.delay = 2 ∨ ((q.delay == 1) = false ∧ (q.delay == 0) = false ∧ (q.delay == 2) = false) := by
                    by_cases h : q.delay = 1 ∨ q.delay = 0 ∨ q.delay = 2
                    · rcases h with h | h | h
                      · exact .inl h
                      · exact .inr (.inl h)
                      · exact .inr (.inr (.inl h))
                    · refine .inr (.inr (.inr ⟨?_, ?_, ?_⟩)) <;> simp <;> omega
                  have HXA := Lib.hid hx1
                  have HXB := Lib.hid hx2
                  clear hx1 hx2 hfq
                  unfold exAgg at HC2 HC3 HC4
                  generalize Lx.isName q.name = qn at *
                  generalize right q.e = qr at *
                  generalize literal q.first = ql at *
                  generalize same q.first Ex.zero = qs at *
                  go_upto_region 20 with (fail)
                  obtain ⟨W8, hW8⟩ : ∃ W8, W8 = wr.alloc (.cells #[.string ⟨q.name.toArray⟩, .int .i64 q.delay, .int .i64 q.first.kind, .int .i32 q.first.n, .string ⟨q.first.name.toArray⟩, .slice AF q.first.sub.length cF, .int .i64 q.e.kind, .int .i32 q.e.n, .string ⟨q.e.name.toArray⟩, .slice AE q.e.sub.length cE] 56) := ⟨_, rfl⟩
                  rw [← hW8]
                  have hb8 : Below wr.heap.size wr W8 := by rw [hW8]; exact (Below.refl _ _).alloc (Nat.le_refl _) _
                  have HQ8 : Hid (W8.heap[wr.heap.size]? = some (.cells #[.string ⟨q.name.toArray⟩, .int .i64 q.delay, .int .i64 q.first.kind, .int .i32 q.first.n, .string ⟨q.first.name.toArray⟩, .slice AF q.first.sub.length cF, .int .i64 q.e.kind, .int .i32 q.e.n, .string ⟨q.e.name.toArray⟩, .slice AE q.e.sub.length cE] 56 (0, 0))) := by rw [hW8]; exact heap_alloc_new _ _
                  have hb80 := hb.trans (hb8.mono hb.size)
                  have HXA8 := Lib.hid (HXA.out.below hb8 (Nat.le_refl _))
                  have HXB8 := Lib.hid (HXB.out.below hb8 (Nat.le_refl _))
                  have hs8 : wr.heap.size < W8.heap.size := by rw [hW8]; simp
                  clear hW8 hb8 hb HXA HXB c0 c1 c2 c3 c4 c5 c6 c7 c8 c9
                  have HB8 := Lib.hid hb80
                  obtain ⟨m0, m1, m2, m3, m4, m5, m6, m7, m8, m9⟩ := row10e HQ8.out
                  cases q0
                  · clear hb80
                    go_upto_region 21 with (fail)
                    rcases hdl with h1 | h1 | h1 | ⟨h1, h2, h3⟩
                    · rw [h1]
                      rw [h1] at m1
                      go_wp2_with fail
                      go_roundw
                      case rel => exact ⟨j + 1, false, by omega, by go_num, rfl, by unfold RowKit.Hid; rw [← HX4.out, HJ1.out]; first | (simp; done) | (simp [h1]; done) | (simp [hqr]; done) | (simp [h1, hqr]; done) | (simp at h1 h2 h3; simp [h1, h2, h3]; done) | (simp at h1 h2 h3 hqr; simp [h1, h2, h3, hqr]; done), HB8.out⟩
                      case measure => simp [intOf]; omega
                    · rw [h1]
                      rw [h1] at m1
                      go_wp2_with fail
                      go_roundw
                      case rel => exact ⟨j + 1, false, by omega, by go_num, rfl, by unfold RowKit.Hid; rw [← HX4.out, HJ1.out]; first | (simp; done) | (simp [h1]; done) | (simp [hqr]; done) | (simp [h1, hqr]; done) | (simp at h1 h2 h3; simp [h1, h2, h3]; done) | (simp at h1 h2 h3 hqr; simp [h1, h2, h3, hqr]; done), HB8.out⟩
                      case measure => simp [intOf]; omega
                    · rw [h1]
                      rw [h1] at m1
                      go_wp2_with fail
                      go_roundw
                      case rel => exact ⟨j + 1, false, by omega, by go_num, rfl, by unfold RowKit.Hid; rw [← HX4.out, HJ1.out]; first | (simp; done) | (simp [h1]; done) | (simp [hqr]; done) | (simp [h1, hqr]; done) | (simp at h1 h2 h3; simp [h1, h2, h3]; done) | (simp at h1 h2 h3 hqr; simp [h1, h2, h3, hqr]; done), HB8.out⟩
                      case measure => simp [intOf]; omega
                    · go_wp2_with fail
                      go_ret
                      exact ⟨by rw [HJ1.out]; first | (simp; done) | (simp [h1]; done) | (simp [hqr]; done) | (simp [h1, hqr]; done) | (simp at h1 h2 h3; simp [h1, h2, h3]; done) | (simp at h1 h2 h3 hqr; simp [h1, h2, h3, hqr]; done), HB0.out.trans (HB8.out.mono HB0.out.size)⟩
                  · go_wp2_with fail
                    refine (HC1.out _).mono ?_
                    rintro e w9 ⟨rfl, hb9⟩
                    have HQ9 := Lib.hid ((hb9.block _ hs8).trans HQ8.out)
                    have HB9 := Lib.hid (HB8.out.trans (hb9.mono HB8.out.size))
                    have HXA9 := Lib.hid (HXA8.out.below hb9 (Nat.le_refl _))
                    have HXB9 := Lib.hid (HXB8.out.below hb9 (Nat.le_refl _))
                    have hs9 : wr.heap.size < w9.heap.size := Nat.lt_of_lt_of_le hs8 hb9.size
                    clear hb9 hb80 m0 m1 m2 m3 m4 m5 m6 m7 m8 m9
                    obtain ⟨m0, m1, m2, m3, m4, m5, m6, m7, m8, m9⟩ := row10e HQ9.out
                    cases qn
                    · go_upto_region 21 with (fail)
                      rcases hdl with h1 | h1 | h1 | ⟨h1, h2, h3⟩
                      · rw [h1]
                        rw [h1] at m1
                        go_wp2_with fail
                        go_roundw
                        case rel => exact ⟨j + 1, false, by omega, by go_num, rfl, by unfold RowKit.Hid; rw [← HX4.out, HJ1.out]; first | (simp; done) | (simp [h1]; done) | (simp [hqr]; done) | (simp [h1, hqr]; done) | (simp at h1 h2 h3; simp [h1, h2, h3]; done) | (simp at h1 h2 h3 hqr; simp [h1, h2, h3, hqr]; done), HB9.out⟩
                        case measure => simp [intOf]; omega
                      · rw [h1]
                        rw [h1] at m1
                        go_wp2_with fail
                        go_roundw
                        case rel => exact ⟨j + 1, false, by omega, by go_num, rfl, by unfold RowKit.Hid; rw [← HX4.out, HJ1.out]; first | (simp; done) | (simp [h1]; done) | (simp [hqr]; done) | (simp [h1, hqr]; done) | (simp at h1 h2 h3; simp [h1, h2, h3]; done) | (simp at h1 h2 h3 hqr; simp [h1, h2, h3, hqr]; done), HB9.out⟩
                        case measure => simp [intOf]; omega
                      · rw [h1]
                        rw [h1] at m1
                        go_wp2_with fail
                        go_roundw
                        case rel => exact ⟨j + 1, false, by omega, by go_num, rfl, by unfold RowKit.Hid; rw [← HX4.out, HJ1.out]; first | (simp; done) | (simp [h1]; done) | (simp [hqr]; done) | (simp [h1, hqr]; done) | (simp at h1 h2 h3; simp [h1, h2, h3]; done) | (simp at h1 h2 h3 hqr; simp [h1, h2, h3, hqr]; done), HB9.out⟩
                        case measure => simp [intOf]; omega
                      · go_wp2_with fail
                        go_ret
                        exact ⟨by rw [HJ1.out]; first | (simp; done) | (simp [h1]; done) | (simp [hqr]; done) | (simp [h1, hqr]; done) | (simp at h1 h2 h3; simp [h1, h2, h3]; done) | (simp at h1 h2 h3 hqr; simp [h1, h2, h3, hqr]; done), HB0.out.trans (HB9.out.mono HB0.out.size)⟩
                    · go_wp2_with fail
                      refine (HC2.out _ HXB9.out).mono ?_
                      rintro e w10 ⟨rfl, hb10⟩
                      have HQ10 := Lib.hid ((hb10.block _ hs9).trans HQ9.out)
                      have HB10 := Lib.hid (HB9.out.trans (hb10.mono HB9.out.size))
                      have HXA10 := Lib.hid (HXA9.out.below hb10 (Nat.le_refl _))
                      clear hb10 m0 m1 m2 m3 m4 m5 m6 m7 m8 m9
                      obtain ⟨m0, m1, m2, m3, m4, m5, m6, m7, m8, m9⟩ := row10e HQ10.out
                      rcases hqr : (qr == 0) with _ | _
                      · go_upto_region 21 with (fail)
                        rcases hdl with h1 | h1 | h1 | ⟨h1, h2, h3⟩
                        · rw [h1]
                          rw [h1] at m1
                          go_wp2_with fail
                          go_roundw
                          case rel => exact ⟨j + 1, false, by omega, by go_num, rfl, by unfold RowKit.Hid; rw [← HX4.out, HJ1.out]; first | (simp; done) | (simp [h1]; done) | (simp [hqr]; done) | (simp [h1, hqr]; done) | (simp at h1 h2 h3; simp [h1, h2, h3]; done) | (simp at h1 h2 h3 hqr; simp [h1, h2, h3, hqr]; done), HB10.out⟩
                          case measure => simp [intOf]; omega
                        · rw [h1]
                          rw [h1] at m1
                          go_wp2_with fail
                          go_roundw
                          case rel => exact ⟨j + 1, false, by omega, by go_num, rfl, by unfold RowKit.Hid; rw [← HX4.out, HJ1.out]; first | (simp; done) | (simp [h1]; done) | (simp [hqr]; done) | (simp [h1, hqr]; done) | (simp at h1 h2 h3; simp [h1, h2, h3]; done) | (simp at h1 h2 h3 hqr; simp [h1, h2, h3, hqr]; done), HB10.out⟩
                          case measure => simp [intOf]; omega
                        · rw [h1]
                          rw [h1] at m1
                          go_wp2_with fail
                          go_roundw
                          case rel => exact ⟨j + 1, false, by omega, by go_num, rfl, by unfold RowKit.Hid; rw [← HX4.out, HJ1.out]; first | (simp; done) | (simp [h1]; done) | (simp [hqr]; done) | (simp [h1, hqr]; done) | (simp at h1 h2 h3; simp [h1, h2, h3]; done) | (simp at h1 h2 h3 hqr; simp [h1, h2, h3, hqr]; done), HB10.out⟩
                          case measure => simp [intOf]; omega
                        · go_wp2_with fail
                          go_ret
                          exact ⟨by rw [HJ1.out]; first | (simp; done) | (simp; done) | (simp [hqr]; done) | (simp [h1, hqr]; done) | (simp at h1 h2 h3; simp [h1, h2, h3]; done) | (simp at h1 h2 h3 hqr; simp [h1, h2, h3, hqr]; done), HB0.out.trans (HB10.out.mono HB0.out.size)⟩
                      · go_upto_region 21 with (fail)
                        rcases hdl with h1 | h1 | h1 | ⟨h1, h2, h3⟩
                        · rw [h1]
                          rw [h1] at m1
                          go_wp2_with fail
                          refine (HC3.out _ HXA10.out).mono ?_
                          rintro e w11 ⟨rfl, hb11⟩
                          have HB11 := Lib.hid (HB10.out.trans (hb11.mono HB10.out.size))
                          clear hb11
                          go_wp2_with fail
                          go_roundw
                          case rel => exact ⟨j + 1, ql, by omega, by go_num, rfl, by unfold RowKit.Hid; rw [← HX4.out, HJ1.out]; first | (simp; done) | (simp [h1]; done) | (simp [hqr]; done) | (simp [h1, hqr]; done) | (simp at h1 h2 h3; simp [h1, h2, h3]; done) | (simp at h1 h2 h3 hqr; simp [h1, h2, h3, hqr]; done), HB11.out⟩
                          case measure => simp [intOf]; omega
                        · rw [h1]
                          rw [h1] at m1
                          go_wp2_with fail
                          refine (HC4.out _ HXA10.out).mono ?_
                          rintro e w11 ⟨rfl, hb11⟩
                          have HB11 := Lib.hid (HB10.out.trans (hb11.mono HB10.out.size))
                          clear hb11
                          go_wp2_with fail
                          go_roundw
                          case rel => exact ⟨j + 1, qs, by omega, by go_num, rfl, by unfold RowKit.Hid; rw [← HX4.out, HJ1.out]; first | (simp; done) | (simp [h1]; done) | (simp [hqr]; done) | (simp [h1, hqr]; done) | (simp at h1 h2 h3; simp [h1, h2, h3]; done) | (simp at h1 h2 h3 hqr; simp [h1, h2, h3, hqr]; done), HB11.out⟩
                          case measure => simp [intOf]; omega
                        · rw [h1]
                          rw [h1] at m1
                          go_wp2_with fail
                          refine (HC4.out _ HXA10.out).mono ?_
                          rintro e w11 ⟨rfl, hb11⟩
                          have HB11 := Lib.hid (HB10.out.trans (hb11.mono HB10.out.size))
                          clear hb11
                          go_wp2_with fail
                          go_roundw
                          case rel => exact ⟨j + 1, qs, by omega, by go_num, rfl, by unfold RowKit.Hid; rw [← HX4.out, HJ1.out]; first | (simp; done) | (simp [h1]; done) | (simp [hqr]; done) | (simp [h1, hqr]; done) | (simp at h1 h2 h3; simp [h1, h2, h3]; done) | (simp at h1 h2 h3 hqr; simp [h1, h2, h3, hqr]; done), HB11.out⟩
                          case measure => simp [intOf]; omega
                        · go_wp2_with fail
                          go_ret
                          exact ⟨by rw [HJ1.out]; first | (simp; done) | (simp; done) | (simp [hqr]; done) | (simp [hqr]; done) | (simp at h1 h2 h3; simp [h1, h2, h3]; done) | (simp at h1 h2 h3 hqr; simp [h1, h2, h3, hqr]; done), HB0.out.trans (HB10.out.mono HB0.out.size)⟩
                · obtain rfl : j = pe.length := by omega
                  have HRZ : Hid (r = q0) := by unfold RowKit.Hid; rw [HJ.out, all_done, Bool.and_true]
                  clear HJ
                  go_wp2_with fail
                  go_ret
                  exact ⟨by rw [HRZ.out]; rfl, HB0.out.trans (hb.mono HB0.out.size)⟩
end Go.Proofs.Ytilkilffkjhhbaa
