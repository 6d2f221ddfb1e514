/-
  A program's head.
-/
import Derived.Test.YtilkilffkjhhbaaTrQc
namespace Go.Proofs.Ytilkilffkjhhbaa
set_option maxRecDepth 20000
set_option linter.unusedVariables false
open Go.RowKit Tr Mem

theorem pg_one (n : Lx.Bs) (A B C D : Option Addr) (a b c d a' b' c' d' : Nat) : (#[.string ⟨n.toArray⟩, .slice A a a', .slice B b b', .slice C c c', .slice D d d'] : Array Value).all (·.oneCell') = true :=
  all_oneCell_toArray (cs := [.string ⟨n.toArray⟩, .slice A a a', .slice B b b', .slice C c c', .slice D d d']) (by intro u hu; simp at hu; rcases hu with rfl | rfl | rfl | rfl | rfl <;> rfl)

set_option maxRecDepth 100000 in
set_option maxHeartbeats 16000000 in
theorem head_plain (bp : Nat) (A : Option Addr) (c : Nat) (ts : List Lx.Tok) (s : St) (w : World) (h : RowAt w bp 61 A c ts s)
    (nm : Lx.Bs) (x y : List Vr) (s1 s2 s3 s4 s5 s6 : St) (hs1 : need ts s [110, 111, 100, 101] = s1) (hs2 : Tr.name ts s1 = (nm, s2)) (hs3 : declsP ts s2 = (x, s3)) (hs4 : need ts s3 [114, 101, 116, 117, 114, 110, 115] = s4) (hs5 : declsP ts s4 = (y, s5)) (hs6 : need ts s5 [59] = s6) (s8 : St) (h1 : sees ts s6 wVar = false) (hs8 : need ts s6 wLet = s8) :
    Calls Try.prog 31 #[.pointer (some ⟨bp, 0, none⟩)] w (HeadPost w bp A c ts (⟨nm, x, y, [], []⟩, s8)) := by
  have HR := Lib.hid h
  have hbw := h.lt
  have HW0 : Hid (∀ V, Below w.heap.size w (w.alloc V)) := fun V => (Below.refl _ _).alloc (Nat.le_refl _) V
  clear h
  have HN0 := Lib.hid (fun W h => need_any bp A c ts s wNode W h)
  unfold wNode at HN0
  rw [hs1] at HN0
  have HC := Lib.hid (fun W h => name_any bp A c ts s1 W h)
  rw [hs2] at HC
  have HD1 := Lib.hid (fun W h => decls_any bp A c ts s2 W h)
  rw [hs3] at HD1
  have HN1 := Lib.hid (fun W h => need_any bp A c ts s3 wReturns W h)
  unfold wReturns at HN1
  rw [hs4] at HN1
  have HD2 := Lib.hid (fun W h => decls_any bp A c ts s4 W h)
  rw [hs5] at HD2
  have HN2 := Lib.hid (fun W h => need_any bp A c ts s5 [59] W h)
  rw [hs6] at HN2
  have HT := Lib.hid (fun W h => take_any bp A c ts s6 wVar W h)
  unfold wVar at HT

  have hv : sees ts s6 [118, 97, 114] = false := h1
  rw [hv, if_neg (by decide)] at HT
  have HL := Lib.hid (fun W h => need_any bp A c ts s6 wLet W h)
  rw [hs8] at HL
  unfold wLet at HL
  clear h1 hv hs8
  clear hs1 hs2 hs3 hs4 hs5 hs6
  dsimp only at *
  go_enter Try.func31, Try.ntmps31
  go_wp2_with fail
  obtain ⟨W0, hW0⟩ : ∃ W0, W0 = w.alloc (.cells zpg 26) := ⟨_, rfl⟩
  unfold zpg at hW0
  rw [← hW0]
  have HB0 : Hid (Below w.heap.size w W0) := by rw [hW0]; exact HW0.out _
  have HZ0 : Hid (W0.heap[w.heap.size]? = some (.cells zpg 26 (0, 0))) := by rw [hW0]; exact heap_alloc_new _ _
  have HK0 : Hid (Took w bp 61 A c ts s W0) := (took_refl HR.out).below HB0.out
  clear hW0
  refine (HN0.out _ HK0.out.1).mono ?_
  rintro e w1 ⟨rfl, hk⟩
  have HY2 := Lib.hid (hk.row HZ0.out (by omega))
  have HK3 := Lib.hid (HK0.out.trans hk)
  clear HZ0 HK0
  clear hk
  go_wp2_with fail
  refine (HC.out _ HK3.out.1).mono ?_
  rintro e w4 ⟨rfl, hk⟩
  have HY5 := Lib.hid (hk.row HY2.out (by omega))
  have HK6 := Lib.hid (HK3.out.trans hk)
  clear HY2 HK3
  clear hk
  go_wp2_with fail
  have hz_HY5 := (Array.getElem?_eq_some_iff.1 HY5.out).1
  obtain ⟨W7, hW⟩ : ∃ W, W = w4.alloc (.cells #[.string ⟨nm.toArray⟩, .slice none 0 0, .slice none 0 0, .slice none 0 0, .slice none 0 0] 26) := ⟨_, rfl⟩
  rw [← hW]
  have hbx : Below w4.heap.size w4 W7 := by rw [hW]; exact (Below.refl _ _).alloc (Nat.le_refl _) _
  have HN7 : Hid (W7.heap[w4.heap.size]? = some (.cells #[.string ⟨nm.toArray⟩, .slice none 0 0, .slice none 0 0, .slice none 0 0, .slice none 0 0] 26 (0, 0))) := by rw [hW]; exact heap_alloc_new _ _
  have hlo7 : w.heap.size < w4.heap.size := (Array.getElem?_eq_some_iff.1 HY5.out).1
  clear hW
  have HY8 := Lib.hid ((hbx.block _ (Array.getElem?_eq_some_iff.1 HY5.out).1).trans HY5.out)
  have HK9 := Lib.hid (HK6.out.below hbx)
  clear HY5 HK6
  clear hbx
  have hz_HY8 := (Array.getElem?_eq_some_iff.1 HY8.out).1
  have hz_HN7 := (Array.getElem?_eq_some_iff.1 HN7.out).1
  go_wp2_with fail
  have hz_HY8 := (Array.getElem?_eq_some_iff.1 HY8.out).1
  have hz_HN7 := (Array.getElem?_eq_some_iff.1 HN7.out).1
  have hbs : w4.heap.size + 1 ≤ W7.heap.size := by omega
  refine (HD1.out _ HK9.out.1).mono ?_
  rintro e wd10 ⟨vv, rfl, ho, hk⟩
  obtain ⟨Ax, cx, rfl⟩ := own_slice ho
  have HY11 := Lib.hid (hk.row HY8.out (by omega))
  have HY12 := Lib.hid (hk.row HN7.out (by omega))
  have HK13 := Lib.hid (HK9.out.trans hk)
  clear HY8 HN7 HK9
  have HOX10 := Lib.hid (own_base ho hbs)
  clear ho hk hbs
  dsimp only at HOX10
  dsimp only
  obtain ⟨⟨c1, c2, c3, c4⟩, g1, g2, g3, g4⟩ := row5 HY12.out
  go_upto_region 4 with (fail)
  obtain ⟨V14, hV⟩ : ∃ W, W = wd10.setCell ⟨w4.heap.size, 1, none⟩ (.slice Ax x.length cx) := ⟨_, rfl⟩
  rw [← hV]
  have HY15 : Hid (V14.heap[w.heap.size]? = some (.cells zpg 26 (0, 0))) := by rw [hV]; exact set1_keep HY11.out (by omega) _
  have HY16 : Hid (V14.heap[w4.heap.size]? = some (.cells #[.string ⟨nm.toArray⟩, .slice Ax x.length cx, .slice none 0 0, .slice none 0 0, .slice none 0 0] 26 (0, 0))) := by rw [hV]; exact set1_rowk HY12.out _
  have HO17 : Hid (V14.ownsRow (w4.heap.size + 1) 73 4 (.slice Ax x.length cx) x.length (varsCells x)) := by rw [hV]; exact own_grown HOX10.out (grown_setCell _ _ _ _) (fun k hk => by have := (HOX10.out.lt k hk).1; omega)
  have HK18 : Hid (Took w bp 61 A c ts s3 V14) := by rw [hV]; exact HK13.out.ours (grown_setCell _ _ _ _) HR.out (by omega)
  clear hV HY11 HY12 HOX10 HK13
  clear c1 c2 c3 c4 g1 g2 g3 g4
  go_wp2_with fail
  refine (HN1.out _ HK18.out.1).mono ?_
  rintro e w19 ⟨rfl, hk⟩
  have HO20 := Lib.hid (own_took HO17.out hk (by omega))
  have HY21 := Lib.hid (hk.row HY15.out (by omega))
  have HY22 := Lib.hid (hk.row HY16.out (by omega))
  have HK23 := Lib.hid (HK18.out.trans hk)
  clear HY15 HY16 HK18
  clear HO17
  clear hk
  go_wp2_with fail
  have hz_HY21 := (Array.getElem?_eq_some_iff.1 HY21.out).1
  have hz_HY22 := (Array.getElem?_eq_some_iff.1 HY22.out).1
  have hbs : w4.heap.size + 1 ≤ w19.heap.size := by omega
  refine (HD2.out _ HK23.out.1).mono ?_
  rintro e wd24 ⟨vv, rfl, ho, hk⟩
  obtain ⟨Ay, cy, rfl⟩ := own_slice ho
  have HO25 := Lib.hid (own_took HO20.out hk (by omega))
  have HY26 := Lib.hid (hk.row HY21.out (by omega))
  have HY27 := Lib.hid (hk.row HY22.out (by omega))
  have HK28 := Lib.hid (HK23.out.trans hk)
  clear HY21 HY22 HK23
  clear HO20
  have HOX24 := Lib.hid (own_base ho hbs)
  clear ho hk hbs
  dsimp only at HOX24
  dsimp only
  obtain ⟨⟨c1, c2, c3, c4⟩, g1, g2, g3, g4⟩ := row5 HY27.out
  go_upto_region 6 with (fail)
  obtain ⟨V29, hV⟩ : ∃ W, W = wd24.setCell ⟨w4.heap.size, 2, none⟩ (.slice Ay y.length cy) := ⟨_, rfl⟩
  rw [← hV]
  have HY30 : Hid (V29.heap[w.heap.size]? = some (.cells zpg 26 (0, 0))) := by rw [hV]; exact set1_keep HY26.out (by omega) _
  have HY31 : Hid (V29.heap[w4.heap.size]? = some (.cells #[.string ⟨nm.toArray⟩, .slice Ax x.length cx, .slice Ay y.length cy, .slice none 0 0, .slice none 0 0] 26 (0, 0))) := by rw [hV]; exact set1_rowk HY27.out _
  have HO32 : Hid (V29.ownsRow (w4.heap.size + 1) 73 4 (.slice Ax x.length cx) x.length (varsCells x)) := by rw [hV]; exact own_grown HO25.out (grown_setCell _ _ _ _) (fun k hk => by have := (HO25.out.lt k hk).1; omega)
  have HO33 : Hid (V29.ownsRow (w4.heap.size + 1) 73 4 (.slice Ay y.length cy) y.length (varsCells y)) := by rw [hV]; exact own_grown HOX24.out (grown_setCell _ _ _ _) (fun k hk => by have := (HOX24.out.lt k hk).1; omega)
  have HK34 : Hid (Took w bp 61 A c ts s5 V29) := by rw [hV]; exact HK28.out.ours (grown_setCell _ _ _ _) HR.out (by omega)
  clear hV HY26 HY27 HO25 HOX24 HK28
  clear c1 c2 c3 c4 g1 g2 g3 g4
  go_wp2_with fail
  refine (HN2.out _ HK34.out.1).mono ?_
  rintro e w35 ⟨rfl, hk⟩
  have HO36 := Lib.hid (own_took HO32.out hk (by omega))
  have HO37 := Lib.hid (own_took HO33.out hk (by omega))
  have HY38 := Lib.hid (hk.row HY30.out (by omega))
  have HY39 := Lib.hid (hk.row HY31.out (by omega))
  have HK40 := Lib.hid (HK34.out.trans hk)
  clear HY30 HY31 HK34
  clear HO32 HO33
  clear hk
  go_wp2_with fail
  refine (HT.out _ HK40.out.1).mono ?_
  rintro e w41 ⟨rfl, hk⟩
  have HO42 := Lib.hid (own_took HO36.out hk (by omega))
  have HO43 := Lib.hid (own_took HO37.out hk (by omega))
  have HY44 := Lib.hid (hk.row HY38.out (by omega))
  have HY45 := Lib.hid (hk.row HY39.out (by omega))
  have HK46 := Lib.hid (HK40.out.trans hk)
  clear HY38 HY39 HK40
  clear HO36 HO37
  clear hk
  go_wp2_with fail
  refine (HL.out _ HK46.out.1).mono ?_
  rintro e w47 ⟨rfl, hk⟩
  have HO48 := Lib.hid (own_took HO42.out hk (by omega))
  have HO49 := Lib.hid (own_took HO43.out hk (by omega))
  have HY50 := Lib.hid (hk.row HY44.out (by omega))
  have HY51 := Lib.hid (hk.row HY45.out (by omega))
  have HK52 := Lib.hid (HK46.out.trans hk)
  clear HY44 HY45 HK46
  clear HO42 HO43
  clear hk
  go_upto_region 12 with (fail)
  go_step
  refine wpList_load_row rfl 26 (.tmp 3) rfl w4.heap.size rfl 26 #[.string ⟨nm.toArray⟩, .slice Ax x.length cx, .slice Ay y.length cy, .slice none 0 0, .slice none 0 0] (0, 0) _ HY51.out Try.underlying26 rfl infoPg ?_
  refine wpList_store_row rfl 26 (.tmp 2) (.tmp 62) rfl w.heap.size #[.string ⟨nm.toArray⟩, .slice Ax x.length cx, .slice Ay y.length cy, .slice none 0 0, .slice none 0 0] rfl rfl 26 zpg HY50.out infoPg rfl (pg_one _ _ _ _ _ _ _ _ _ _ _ _ _) ?_
  have hz := setRow_heap _ _ _ #[.string ⟨nm.toArray⟩, .slice Ax x.length cx, .slice Ay y.length cy, .slice none 0 0, .slice none 0 0] _ _ HY50.out
  go_wp2_with fail
  exact ret_row 2 rfl rfl rfl hz Try.underlying26 infoPg ⟨_, _, _, rfl, own_base (own_grown HO48.out (grown_setRow _ w.heap.size _) (fun k hk => by have := (HO48.out.lt k hk).1; omega)) (by omega), own_base (own_grown HO49.out (grown_setRow _ w.heap.size _) (fun k hk => by have := (HO49.out.lt k hk).1; omega)) (by omega), World.ownsRow_nil _ _ _ _, HK52.out.setRow HR.out (Nat.le_refl _) _⟩
theorem own_but {w w' : World} {base B gm bp size n : Nat} {e : TypeId} {v : Value} {xs : List Value} (h : w.ownsRow B e size v n xs) (hk : KeptBut base gm bp w w') (hne : ∀ k, v.ownBlock = some k → k < base ∧ k ≠ gm ∧ k ≠ bp) : w'.ownsRow B e size v n xs := by
  refine ⟨h.1, ?_⟩
  rcases h.2 with h2 | ⟨b, cap, cur, rfl, hb, hh, r⟩
  · exact .inl h2
  · obtain ⟨h1, h2, h3⟩ := hne b rfl
    exact .inr ⟨b, cap, cur, rfl, hb, (hk.block b h1 h2 h3).trans hh, r⟩
theorem row_by {w w' : World} {g : Nat} {row : Option Nat} {O : Obj} (h : w.heap[g]? = some O) (hg : w.grownBy w' row) (hne : ∀ k, row = some k → k ≠ g) : w'.heap[g]? = some O :=
  (hg.block g (Array.getElem?_eq_some_iff.1 h).1 (fun e => hne g e.symm rfl)).trans h
theorem own_by {w w' : World} {base size n : Nat} {e : TypeId} {v : Value} {xs : List Value} {row : Option Nat} (h : w.ownsRow base e size v n xs) (hg : w.grownBy w' row) (hne : ∀ k j, v.ownBlock = some k → row = some j → k ≠ j) : w'.ownsRow base e size v n xs := by
  refine ⟨h.1, ?_⟩
  rcases h.2 with h2 | ⟨b, cap, cur, rfl, hb, hh, r⟩
  · exact .inl h2
  · exact .inr ⟨b, cap, cur, rfl, hb, (hg.block b (Array.getElem?_eq_some_iff.1 hh).1 (fun e => hne b b rfl e.symm rfl)).trans hh, r⟩

set_option maxRecDepth 100000 in
set_option maxHeartbeats 16000000 in
theorem head_own (bp : Nat) (A : Option Addr) (c : Nat) (ts : List Lx.Tok) (s : St) (w : World) (h : RowAt w bp 61 A c ts s)
    (nm : Lx.Bs) (x y : List Vr) (s1 s2 s3 s4 s5 s6 : St) (hs1 : need ts s [110, 111, 100, 101] = s1) (hs2 : Tr.name ts s1 = (nm, s2)) (hs3 : declsP ts s2 = (x, s3)) (hs4 : need ts s3 [114, 101, 116, 117, 114, 110, 115] = s4) (hs5 : declsP ts s4 = (y, s5)) (hs6 : need ts s5 [59] = s6) (vl : List Vr) (s7 s8 : St) (h1 : sees ts s6 wVar = true) (hs7 : ownsL ts s6.adv = (vl, s7)) (hs8 : need ts s7 wLet = s8) :
    Calls Try.prog 31 #[.pointer (some ⟨bp, 0, none⟩)] w (HeadPost w bp A c ts (⟨nm, x, y, vl, []⟩, s8)) := by
  have HR := Lib.hid h
  have hbw := h.lt
  have HW0 : Hid (∀ V, Below w.heap.size w (w.alloc V)) := fun V => (Below.refl _ _).alloc (Nat.le_refl _) V
  clear h
  have HN0 := Lib.hid (fun W h => need_any bp A c ts s wNode W h)
  unfold wNode at HN0
  rw [hs1] at HN0
  have HC := Lib.hid (fun W h => name_any bp A c ts s1 W h)
  rw [hs2] at HC
  have HD1 := Lib.hid (fun W h => decls_any bp A c ts s2 W h)
  rw [hs3] at HD1
  have HN1 := Lib.hid (fun W h => need_any bp A c ts s3 wReturns W h)
  unfold wReturns at HN1
  rw [hs4] at HN1
  have HD2 := Lib.hid (fun W h => decls_any bp A c ts s4 W h)
  rw [hs5] at HD2
  have HN2 := Lib.hid (fun W h => need_any bp A c ts s5 [59] W h)
  rw [hs6] at HN2
  have HT := Lib.hid (fun W h => take_any bp A c ts s6 wVar W h)
  unfold wVar at HT

  have hv : sees ts s6 [118, 97, 114] = true := h1
  rw [hv, if_pos rfl] at HT
  have HL := Lib.hid (fun W h => need_any bp A c ts s7 wLet W h)
  rw [hs8] at HL
  unfold wLet at HL
  clear h1 hv hs8
  rw [ownsL_rest] at hs7
  have HOW := Lib.hid (fun W h => own_any bp A c ts s6.adv W h)
  have hoa := ownP_at ts s6.adv
  generalize ownP ts s6.adv = q at *
  obtain ⟨ov, s9⟩ := q
  have HJ := Lib.hid hs7
  clear hs7
  obtain ⟨i0, hi, hz0, hz1, hz2⟩ := info_parts infoVr
  clear hs1 hs2 hs3 hs4 hs5 hs6
  dsimp only at *
  go_enter Try.func31, Try.ntmps31
  go_wp2_with fail
  obtain ⟨W0, hW0⟩ : ∃ W0, W0 = w.alloc (.cells zpg 26) := ⟨_, rfl⟩
  unfold zpg at hW0
  rw [← hW0]
  have HB0 : Hid (Below w.heap.size w W0) := by rw [hW0]; exact HW0.out _
  have HZ0 : Hid (W0.heap[w.heap.size]? = some (.cells zpg 26 (0, 0))) := by rw [hW0]; exact heap_alloc_new _ _
  have HK0 : Hid (Took w bp 61 A c ts s W0) := (took_refl HR.out).below HB0.out
  clear hW0
  refine (HN0.out _ HK0.out.1).mono ?_
  rintro e w1 ⟨rfl, hk⟩
  have HY2 := Lib.hid (hk.row HZ0.out (by omega))
  have HK3 := Lib.hid (HK0.out.trans hk)
  clear HZ0 HK0
  clear hk
  go_wp2_with fail
  refine (HC.out _ HK3.out.1).mono ?_
  rintro e w4 ⟨rfl, hk⟩
  have HY5 := Lib.hid (hk.row HY2.out (by omega))
  have HK6 := Lib.hid (HK3.out.trans hk)
  clear HY2 HK3
  clear hk
  go_wp2_with fail
  have hz_HY5 := (Array.getElem?_eq_some_iff.1 HY5.out).1
  obtain ⟨W7, hW⟩ : ∃ W, W = w4.alloc (.cells #[.string ⟨nm.toArray⟩, .slice none 0 0, .slice none 0 0, .slice none 0 0, .slice none 0 0] 26) := ⟨_, rfl⟩
  rw [← hW]
  have hbx : Below w4.heap.size w4 W7 := by rw [hW]; exact (Below.refl _ _).alloc (Nat.le_refl _) _
  have HN7 : Hid (W7.heap[w4.heap.size]? = some (.cells #[.string ⟨nm.toArray⟩, .slice none 0 0, .slice none 0 0, .slice none 0 0, .slice none 0 0] 26 (0, 0))) := by rw [hW]; exact heap_alloc_new _ _
  have hlo7 : w.heap.size < w4.heap.size := (Array.getElem?_eq_some_iff.1 HY5.out).1
  clear hW
  have HY8 := Lib.hid ((hbx.block _ (Array.getElem?_eq_some_iff.1 HY5.out).1).trans HY5.out)
  have HK9 := Lib.hid (HK6.out.below hbx)
  clear HY5 HK6
  clear hbx
  have hz_HY8 := (Array.getElem?_eq_some_iff.1 HY8.out).1
  have hz_HN7 := (Array.getElem?_eq_some_iff.1 HN7.out).1
  go_wp2_with fail
  have hz_HY8 := (Array.getElem?_eq_some_iff.1 HY8.out).1
  have hz_HN7 := (Array.getElem?_eq_some_iff.1 HN7.out).1
  have hbs : w4.heap.size + 1 ≤ W7.heap.size := by omega
  refine (HD1.out _ HK9.out.1).mono ?_
  rintro e wd10 ⟨vv, rfl, ho, hk⟩
  obtain ⟨Ax, cx, rfl⟩ := own_slice ho
  have HY11 := Lib.hid (hk.row HY8.out (by omega))
  have HY12 := Lib.hid (hk.row HN7.out (by omega))
  have HK13 := Lib.hid (HK9.out.trans hk)
  clear HY8 HN7 HK9
  have HOX10 := Lib.hid (own_base ho hbs)
  clear ho hk hbs
  dsimp only at HOX10
  dsimp only
  obtain ⟨⟨c1, c2, c3, c4⟩, g1, g2, g3, g4⟩ := row5 HY12.out
  go_upto_region 4 with (fail)
  obtain ⟨V14, hV⟩ : ∃ W, W = wd10.setCell ⟨w4.heap.size, 1, none⟩ (.slice Ax x.length cx) := ⟨_, rfl⟩
  rw [← hV]
  have HY15 : Hid (V14.heap[w.heap.size]? = some (.cells zpg 26 (0, 0))) := by rw [hV]; exact set1_keep HY11.out (by omega) _
  have HY16 : Hid (V14.heap[w4.heap.size]? = some (.cells #[.string ⟨nm.toArray⟩, .slice Ax x.length cx, .slice none 0 0, .slice none 0 0, .slice none 0 0] 26 (0, 0))) := by rw [hV]; exact set1_rowk HY12.out _
  have HO17 : Hid (V14.ownsRow (w4.heap.size + 1) 73 4 (.slice Ax x.length cx) x.length (varsCells x)) := by rw [hV]; exact own_grown HOX10.out (grown_setCell _ _ _ _) (fun k hk => by have := (HOX10.out.lt k hk).1; omega)
  have HK18 : Hid (Took w bp 61 A c ts s3 V14) := by rw [hV]; exact HK13.out.ours (grown_setCell _ _ _ _) HR.out (by omega)
  clear hV HY11 HY12 HOX10 HK13
  clear c1 c2 c3 c4 g1 g2 g3 g4
  go_wp2_with fail
  refine (HN1.out _ HK18.out.1).mono ?_
  rintro e w19 ⟨rfl, hk⟩
  have HO20 := Lib.hid (own_took HO17.out hk (by omega))
  have HY21 := Lib.hid (hk.row HY15.out (by omega))
  have HY22 := Lib.hid (hk.row HY16.out (by omega))
  have HK23 := Lib.hid (HK18.out.trans hk)
  clear HY15 HY16 HK18
  clear HO17
  clear hk
  go_wp2_with fail
  have hz_HY21 := (Array.getElem?_eq_some_iff.1 HY21.out).1
  have hz_HY22 := (Array.getElem?_eq_some_iff.1 HY22.out).1
  have hbs : w4.heap.size + 1 ≤ w19.heap.size := by omega
  refine (HD2.out _ HK23.out.1).mono ?_
  rintro e wd24 ⟨vv, rfl, ho, hk⟩
  obtain ⟨Ay, cy, rfl⟩ := own_slice ho
  have HO25 := Lib.hid (own_took HO20.out hk (by omega))
  have HY26 := Lib.hid (hk.row HY21.out (by omega))
  have HY27 := Lib.hid (hk.row HY22.out (by omega))
  have HK28 := Lib.hid (HK23.out.trans hk)
  clear HY21 HY22 HK23
  clear HO20
  have HOX24 := Lib.hid (own_base ho hbs)
  clear ho hk hbs
  dsimp only at HOX24
  dsimp only
  obtain ⟨⟨c1, c2, c3, c4⟩, g1, g2, g3, g4⟩ := row5 HY27.out
  go_upto_region 6 with (fail)
  obtain ⟨V29, hV⟩ : ∃ W, W = wd24.setCell ⟨w4.heap.size, 2, none⟩ (.slice Ay y.length cy) := ⟨_, rfl⟩
  rw [← hV]
  have HY30 : Hid (V29.heap[w.heap.size]? = some (.cells zpg 26 (0, 0))) := by rw [hV]; exact set1_keep HY26.out (by omega) _
  have HY31 : Hid (V29.heap[w4.heap.size]? = some (.cells #[.string ⟨nm.toArray⟩, .slice Ax x.length cx, .slice Ay y.length cy, .slice none 0 0, .slice none 0 0] 26 (0, 0))) := by rw [hV]; exact set1_rowk HY27.out _
  have HO32 : Hid (V29.ownsRow (w4.heap.size + 1) 73 4 (.slice Ax x.length cx) x.length (varsCells x)) := by rw [hV]; exact own_grown HO25.out (grown_setCell _ _ _ _) (fun k hk => by have := (HO25.out.lt k hk).1; omega)
  have HO33 : Hid (V29.ownsRow (w4.heap.size + 1) 73 4 (.slice Ay y.length cy) y.length (varsCells y)) := by rw [hV]; exact own_grown HOX24.out (grown_setCell _ _ _ _) (fun k hk => by have := (HOX24.out.lt k hk).1; omega)
  have HK34 : Hid (Took w bp 61 A c ts s5 V29) := by rw [hV]; exact HK28.out.ours (grown_setCell _ _ _ _) HR.out (by omega)
  clear hV HY26 HY27 HO25 HOX24 HK28
  clear c1 c2 c3 c4 g1 g2 g3 g4
  go_wp2_with fail
  refine (HN2.out _ HK34.out.1).mono ?_
  rintro e w35 ⟨rfl, hk⟩
  have HO36 := Lib.hid (own_took HO32.out hk (by omega))
  have HO37 := Lib.hid (own_took HO33.out hk (by omega))
  have HY38 := Lib.hid (hk.row HY30.out (by omega))
  have HY39 := Lib.hid (hk.row HY31.out (by omega))
  have HK40 := Lib.hid (HK34.out.trans hk)
  clear HY30 HY31 HK34
  clear HO32 HO33
  clear hk
  go_wp2_with fail
  refine (HT.out _ HK40.out.1).mono ?_
  rintro e w41 ⟨rfl, hk⟩
  have HO42 := Lib.hid (own_took HO36.out hk (by omega))
  have HO43 := Lib.hid (own_took HO37.out hk (by omega))
  have HY44 := Lib.hid (hk.row HY38.out (by omega))
  have HY45 := Lib.hid (hk.row HY39.out (by omega))
  have HK46 := Lib.hid (HK40.out.trans hk)
  clear HY38 HY39 HK40
  clear HO36 HO37
  clear hk
  go_wp2_with fail
  have hz_HY44 := (Array.getElem?_eq_some_iff.1 HY44.out).1
  have hz_HY45 := (Array.getElem?_eq_some_iff.1 HY45.out).1
  have hxb : ∀ k, (Value.slice Ax x.length cx).ownBlock = some k → k < w41.heap.size := fun k hk => (HO42.out.lt k hk).2
  have hyb : ∀ k, (Value.slice Ay y.length cy).ownBlock = some k → k < w41.heap.size := fun k hk => (HO43.out.lt k hk).2
  obtain ⟨B2, hB2⟩ : ∃ B2, B2 = w41.heap.size := ⟨_, rfl⟩
  rw [← hB2] at hxb hyb
  have hB3 : B2 ≤ w41.heap.size := by omega
  have hB4 : w4.heap.size < B2 := by omega
  clear hB2
  refine wp_region_any (by kernel_rfl) ?_
  refine wpAny_ops (ops' := hdaOps) (by kernel_rfl) ?_
  refine hdaRegion _ w w41 (by simp) bp A c ts s s6.adv s9 w4.heap.size 0 B2 #[.string ⟨nm.toArray⟩, .slice Ax x.length cx, .slice Ay y.length cy, .slice none 0 0, .slice none 0 0] (.slice none 0 0) [] ov HR.out rfl rfl (by omega) hbw (by omega) (by omega) (by omega) HY45.out (World.ownsRow_nil _ _ _ _) HK46.out HOW.out rfl rfl ?_
  intro vs wq hc
  simp only [hdaSlots, List.foldl_cons, List.foldl_nil]
  simp only [hdaVal]
  simp only [Act.put, List.setIfInBounds_toArray, List.set_cons_zero, List.set_cons_succ]
  obtain ⟨u0, _, _, _, _, _, _, _, u8, u9, u10⟩ := hc
  simp only [if_true] at u9 u10
  obtain ⟨A7, c7, e7⟩ := own_slice (u8 rfl)
  rw [e7] at u9
  have hsq := u0.size
  have HK7 := Lib.hid u10
  have HP7 := Lib.hid u9
  have HL7 := Lib.hid (u8 rfl)
  rw [e7] at HL7
  have HZ7 := Lib.hid ((u0.block w.heap.size (by omega) (by omega) (by omega)).trans HY44.out)
  have HX7 := Lib.hid (own_but HO42.out u0 (fun k hk => ⟨hxb k hk, by have := (HO42.out.lt k hk).1; omega, by have := (HO42.out.lt k hk).1; omega⟩))
  have HY7 := Lib.hid (own_but HO43.out u0 (fun k hk => ⟨hyb k hk, by have := (HO43.out.lt k hk).1; omega, by have := (HO43.out.lt k hk).1; omega⟩))
  clear u0 u8 u9 u10 HK46 HY44 HY45 HO42 HO43
  have HSE := Lib.hid (fun s W h => sees_any bp A c ts s wLet W h)
  have HOS := Lib.hid (fun s W h => own_any bp A c ts s W h)
  go_wp2_with fail
  go_loopw [50] (fun v wr => ∃ (done : List Vr) (s' : St) (Al : Option Addr) (cl : Nat), Hid ((done ++ (restO ts s').1, (restO ts s').2) = (vl, s7)) ∧ done.length ≤ s'.at_ + 2 ∧ B2 ≤ wr.heap.size ∧ (s'.bad = false → done.length ≤ s'.at_ + 1) ∧ Hid (Took w bp 61 A c ts s' wr) ∧ Hid (wr.heap[w4.heap.size]? = some (.cells #[.string ⟨nm.toArray⟩, .slice Ax x.length cx, .slice Ay y.length cy, .slice Al done.length cl, .slice none 0 0] 26 (0, 0))) ∧ Hid (wr.ownsRow B2 73 4 (.slice Al done.length cl) done.length (varsCells done)) ∧ Hid (wr.heap[w.heap.size]? = some (.cells zpg 26 (0, 0))) ∧ Hid (wr.ownsRow (w4.heap.size + 1) 73 4 (.slice Ax x.length cx) x.length (varsCells x)) ∧ Hid (wr.ownsRow (w4.heap.size + 1) 73 4 (.slice Ay y.length cy) y.length (varsCells y))) (fun _ wr => meas wr bp ts.length)
  case atStart => exact ⟨[ov], s9, A7, c7, HJ.out, by simp, by have := hsq; omega, by simp, HK7.out, HP7.out, by simpa [varsCells, RowKit.Hid] using HL7.out, HZ7.out, HX7.out, HY7.out⟩
  case round =>
    obtain ⟨done, s', Al, cl, HJ1, hd1, hB9, hd2, HK, HP, HL1, HZ, HX, HY⟩ := hrel
    have hle := HK.out.1.le
    have hlen := HK.out.1.len
    have hme := HK.out.1.meas ts.length
    obtain ⟨q0, q1, q2, q3, q4, q5⟩ := row6 HK.out.1
    have hj := HJ1.out
    unfold restO at hj
    rcases hb : s'.bad with _ | _
    · rcases h2 : sees ts s' wLet with _ | _
      · rw [hb, h2, if_neg (by decide), ownsL_rest] at hj
        rw [hb] at q2 hme
        have hat := ownP_at ts s'
        have hok := ownP_ok (ts := ts) (s := s')
        have HOC := Lib.hid (HOS.out s')
        have HSC := Lib.hid (HSE.out s')
        rw [h2] at HSC
        unfold wLet at HSC
        generalize ownP ts s' = q at *
        obtain ⟨v2, s3'⟩ := q
        dsimp only at hat hok hj
        have HJ2 := Lib.hid hj
        clear h2 hj
        go_wp2_with fail
        refine (HSC.out _ HK.out.1).mono ?_
        rintro e w5 ⟨rfl, hb5⟩
        have HK5 := Lib.hid (HK.out.below hb5)
        have HP5 := Lib.hid ((hb5.block _ (Array.getElem?_eq_some_iff.1 HP.out).1).trans HP.out)
        have HZ5 := Lib.hid ((hb5.block _ (Array.getElem?_eq_some_iff.1 HZ.out).1).trans HZ.out)
        have HL5 := Lib.hid (Mem.own_below HL1.out hb5)
        have HX5 := Lib.hid (Mem.own_below HX.out hb5)
        have HY5 := Lib.hid (Mem.own_below HY.out hb5)
        have hsz5 := hb5.size
        clear hb5
        go_wp2_with fail
        refine wp_region_any (by kernel_rfl) ?_
        refine wpAny_ops (ops' := hdbOps) (by kernel_rfl) ?_
        refine hdbRegion _ w w5 (by simp) bp A c ts s s' s3' w4.heap.size done.length B2 #[.string ⟨nm.toArray⟩, .slice Ax x.length cx, .slice Ay y.length cy, .slice Al done.length cl, .slice none 0 0] (.slice Al done.length cl) (varsCells done) v2 HR.out rfl rfl (by omega) hbw (by omega) (by omega) (by omega) HP5.out HL5.out HK5.out HOC.out rfl rfl ?_
        intro vs wq hc
        simp only [hdbSlots, List.foldl_cons, List.foldl_nil]
        simp only [hdbVal]
        simp only [Act.put, List.setIfInBounds_toArray, List.set_cons_zero, List.set_cons_succ]
        obtain ⟨u0, _, _, _, _, _, _, _, u8, u9, u10⟩ := hc
        simp only [if_true] at u9 u10
        obtain ⟨A7, c7, e7⟩ := own_slice (u8 rfl)
        rw [e7] at u9
        have hsq := u0.size
        have HK7 := Lib.hid u10
        have HP7 := Lib.hid u9
        have HL7 := Lib.hid (u8 rfl)
        rw [e7, ← varsCells_snoc] at HL7
        have HZ7 := Lib.hid ((u0.block w.heap.size (by omega) (by omega) (by omega)).trans HZ5.out)
        have HX7 := Lib.hid (own_but HX5.out u0 (fun k hk => ⟨hxb k hk, by have := (HX5.out.lt k hk).1; omega, by have := (HX5.out.lt k hk).1; omega⟩))
        have HY7 := Lib.hid (own_but HY5.out u0 (fun k hk => ⟨hyb k hk, by have := (HY5.out.lt k hk).1; omega, by have := (HY5.out.lt k hk).1; omega⟩))
        clear u0 u8 u9 u10
        go_wp2_with fail
        go_roundw
        case rel => exact ⟨done ++ [v2], s3', A7, c7, by have := HJ2.out; simpa [RowKit.Hid] using this, by have := hd2 hb; simp; omega, by omega, fun hb3 => by have := hok hb3; have := hd2 hb; simp; omega, HK7.out, by rw [List.length_append]; exact HP7.out, by rw [List.length_append]; exact HL7.out, HZ7.out, HX7.out, HY7.out⟩
        case measure => rw [hme, HK7.out.1.meas]; have := HK7.out.1.le; rcases hb3 : s3'.bad with _ | _ <;> first | (have := hok hb3; simp; omega) | (simp; omega)
      · rw [hb, h2, if_pos (by decide)] at hj
        rw [hb] at q2 hme
        have HSC := Lib.hid (HSE.out s')
        rw [h2] at HSC
        unfold wLet at HSC
        injection hj with hj1 hj2
        subst hj2
        simp only [List.append_nil] at hj1
        subst hj1
        clear h2
        go_wp2_with fail
        refine (HSC.out _ HK.out.1).mono ?_
        rintro e w5 ⟨rfl, hb5⟩
        have HK5 := Lib.hid (HK.out.below hb5)
        have HP5 := Lib.hid ((hb5.block _ (Array.getElem?_eq_some_iff.1 HP.out).1).trans HP.out)
        have HZ5 := Lib.hid ((hb5.block _ (Array.getElem?_eq_some_iff.1 HZ.out).1).trans HZ.out)
        have HL5 := Lib.hid (Mem.own_below HL1.out hb5)
        have HX5 := Lib.hid (Mem.own_below HX.out hb5)
        have HY5 := Lib.hid (Mem.own_below HY.out hb5)
        have hsz5 := hb5.size
        clear hb5
        go_wp2_with fail
        refine (HL.out _ HK5.out.1).mono ?_
        rintro e w501 ⟨rfl, hk⟩
        have HO502 := Lib.hid (own_took HX5.out hk (by omega))
        have HO503 := Lib.hid (own_took HY5.out hk (by omega))
        have HO504 := Lib.hid (own_took HL5.out hk (by omega))
        have HY505 := Lib.hid (hk.row HZ5.out (by omega))
        have HY506 := Lib.hid (hk.row HP5.out (by omega))
        have HK507 := Lib.hid (HK5.out.trans hk)
        clear HZ5 HP5 HK5
        clear HX5 HY5 HL5
        clear hk
        go_upto_region 12 with (fail)
        go_step
        refine wpList_load_row rfl 26 (.tmp 3) rfl w4.heap.size rfl 26 #[.string ⟨nm.toArray⟩, .slice Ax x.length cx, .slice Ay y.length cy, .slice Al done.length cl, .slice none 0 0] (0, 0) _ HY506.out Try.underlying26 rfl infoPg ?_
        refine wpList_store_row rfl 26 (.tmp 2) (.tmp 62) rfl w.heap.size #[.string ⟨nm.toArray⟩, .slice Ax x.length cx, .slice Ay y.length cy, .slice Al done.length cl, .slice none 0 0] rfl rfl 26 zpg HY505.out infoPg rfl (pg_one _ _ _ _ _ _ _ _ _ _ _ _ _) ?_
        have hz := setRow_heap _ _ _ #[.string ⟨nm.toArray⟩, .slice Ax x.length cx, .slice Ay y.length cy, .slice Al done.length cl, .slice none 0 0] _ _ HY505.out
        go_wp2_with fail
        exact ret_row 2 rfl rfl rfl hz Try.underlying26 infoPg ⟨_, _, _, rfl, own_base (own_grown HO502.out (grown_setRow _ w.heap.size _) (fun k hk => by have := (HO502.out.lt k hk).1; omega)) (by omega), own_base (own_grown HO503.out (grown_setRow _ w.heap.size _) (fun k hk => by have := (HO503.out.lt k hk).1; omega)) (by omega), own_base (own_grown HO504.out (grown_setRow _ w.heap.size _) (fun k hk => by have := (HO504.out.lt k hk).1; omega)) (by omega), HK507.out.setRow HR.out (Nat.le_refl _) _⟩
    · rw [hb, Bool.true_or, if_pos rfl] at hj
      rw [hb] at q2 hme
      injection hj with hj1 hj2
      subst hj2
      simp only [List.append_nil] at hj1
      subst hj1
      go_wp2_with fail
      refine (HL.out _ HK.out.1).mono ?_
      rintro e w501 ⟨rfl, hk⟩
      have HO502 := Lib.hid (own_took HX.out hk (by omega))
      have HO503 := Lib.hid (own_took HY.out hk (by omega))
      have HO504 := Lib.hid (own_took HL1.out hk (by omega))
      have HY505 := Lib.hid (hk.row HZ.out (by omega))
      have HY506 := Lib.hid (hk.row HP.out (by omega))
      have HK507 := Lib.hid (HK.out.trans hk)
      clear HZ HP HK
      clear HX HY HL1
      clear hk
      go_upto_region 12 with (fail)
      go_step
      refine wpList_load_row rfl 26 (.tmp 3) rfl w4.heap.size rfl 26 #[.string ⟨nm.toArray⟩, .slice Ax x.length cx, .slice Ay y.length cy, .slice Al done.length cl, .slice none 0 0] (0, 0) _ HY506.out Try.underlying26 rfl infoPg ?_
      refine wpList_store_row rfl 26 (.tmp 2) (.tmp 62) rfl w.heap.size #[.string ⟨nm.toArray⟩, .slice Ax x.length cx, .slice Ay y.length cy, .slice Al done.length cl, .slice none 0 0] rfl rfl 26 zpg HY505.out infoPg rfl (pg_one _ _ _ _ _ _ _ _ _ _ _ _ _) ?_
      have hz := setRow_heap _ _ _ #[.string ⟨nm.toArray⟩, .slice Ax x.length cx, .slice Ay y.length cy, .slice Al done.length cl, .slice none 0 0] _ _ HY505.out
      go_wp2_with fail
      exact ret_row 2 rfl rfl rfl hz Try.underlying26 infoPg ⟨_, _, _, rfl, own_base (own_grown HO502.out (grown_setRow _ w.heap.size _) (fun k hk => by have := (HO502.out.lt k hk).1; omega)) (by omega), own_base (own_grown HO503.out (grown_setRow _ w.heap.size _) (fun k hk => by have := (HO503.out.lt k hk).1; omega)) (by omega), own_base (own_grown HO504.out (grown_setRow _ w.heap.size _) (fun k hk => by have := (HO504.out.lt k hk).1; omega)) (by omega), HK507.out.setRow HR.out (Nat.le_refl _) _⟩
end Go.Proofs.Ytilkilffkjhhbaa
