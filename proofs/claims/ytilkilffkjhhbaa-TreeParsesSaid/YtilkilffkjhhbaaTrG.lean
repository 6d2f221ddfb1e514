/-
  An expression as text: part and show.
-/
import Derived.Test.YtilkilffkjhhbaaTrD
import Derived.Test.YtilkilffkjhhbaaTrE
import Derived.Test.YtilkilffkjhhbaaTrF
import Derived.Test.YtilkilffkjhhbaaTrPl
namespace Go.Proofs.Ytilkilffkjhhbaa
set_option maxRecDepth 20000
set_option linter.unusedVariables false
open Go.RowKit Tr Mem
attribute [local go_sem] ba_append ba_get

theorem formed_cases {k n : Int} {m : Lx.Bs} {s : List Ex} (h : formed (.mk k n m s) = true) :
    (k = 1 ∧ s = [] ∧ (0 ≤ n ∧ n ≤ 2147483647) ∧ m = []) ∨ (k = 2 ∧ s = [] ∧ (n = 0 ∨ n = 1) ∧ m = []) ∨ (k = 3 ∧ s = [] ∧ n = 0 ∧ Lx.isName m = true) ∨
    (k = 4 ∧ (∃ a, s = [a]) ∧ (n = 1 ∨ n = 2) ∧ m = []) ∨ (k = 5 ∧ (∃ a b, s = [a, b]) ∧ (1 ≤ n ∧ n ≤ 16) ∧ m = []) ∨ (k = 6 ∧ (∃ a b c, s = [a, b, c]) ∧ n = 0 ∧ m = []) ∨
    (k = 7 ∧ (∃ a b, s = [a, b]) ∧ n = 0 ∧ m = []) ∨ (k = 8 ∧ (∃ a, s = [a]) ∧ n = 0 ∧ Lx.isName m = true) ∨ (k = 9 ∧ (∃ a, s = [a]) ∧ n = 0 ∧ Lx.isName m = true) ∨ (k = 10 ∧ (∃ a b, s = [a, b]) ∧ n = 0 ∧ Lx.isName m = true) := by
  have l0 : s.length = 0 → s = [] := List.length_eq_zero_iff.1
  have l1 : s.length = 1 → ∃ a, s = [a] := List.length_eq_one_iff.1
  have l2 : s.length = 2 → ∃ a b, s = [a, b] := fun h => by
    match s, h with
    | [a, b], _ => exact ⟨a, b, rfl⟩
  have l3 : s.length = 3 → ∃ a b c, s = [a, b, c] := fun h => by
    match s, h with
    | [a, b, c], _ => exact ⟨a, b, c, rfl⟩
  rw [formed_eq, Bool.and_eq_true] at h
  obtain ⟨h, _⟩ := h
  rcases kinds k with hk | ⟨hk, _⟩
  · rcases hk with rfl | rfl | rfl | rfl | rfl | rfl | rfl | rfl | rfl | rfl
    all_goals
      simp only [Tr.shape, form] at h
      simp at h
    · exact .inl ⟨rfl, h.1.1.1, ⟨h.1.1.2, h.1.2⟩, h.2⟩
    · exact .inr (.inl ⟨rfl, h.1.1.1, by omega, h.2⟩)
    · exact .inr (.inr (.inl ⟨rfl, h.1.1.1, by omega, h.2⟩))
    · exact .inr (.inr (.inr (.inl ⟨rfl, l1 h.1.1.1, by omega, h.2⟩)))
    · exact .inr (.inr (.inr (.inr (.inl ⟨rfl, l2 h.1.1.1, ⟨h.1.1.2, h.1.2⟩, h.2⟩))))
    · exact .inr (.inr (.inr (.inr (.inr (.inl ⟨rfl, l3 h.1.1.1, by omega, h.2⟩)))))
    · exact .inr (.inr (.inr (.inr (.inr (.inr (.inl ⟨rfl, l2 h.1.1.1, by omega, h.2⟩))))))
    · exact .inr (.inr (.inr (.inr (.inr (.inr (.inr (.inl ⟨rfl, l1 h.1.1.1, by omega, h.2⟩)))))))
    · exact .inr (.inr (.inr (.inr (.inr (.inr (.inr (.inr (.inl ⟨rfl, l1 h.1.1.1, by omega, h.2⟩))))))))
    · exact .inr (.inr (.inr (.inr (.inr (.inr (.inr (.inr (.inr ⟨rfl, l2 h.1.1.1, by omega, h.2⟩))))))))
  · unfold Tr.shape at h
    rw [hk] at h
    cases h
theorem text_len : ∀ x : Ex, formed x = true → (text x).length ≤ 30 * size x := by
  refine Ex.ind ?_
  intro k n m s ih hf
  have hs : formeds s = true := by rw [formed_eq, Bool.and_eq_true] at hf; exact hf.2
  have hp : ∀ y ∈ s, (Tr.part y).length ≤ 30 * size y + 2 := fun y hy => by
    have h1 := part_len y
    have h2 := ih y hy (formeds_mem hs hy)
    omega
  have ht : ∀ y ∈ s, (text y).length ≤ 30 * size y := fun y hy => ih y hy (formeds_mem hs hy)
  rcases formed_cases hf with ⟨rfl, rfl, h1, rfl⟩ | ⟨rfl, rfl, h1, rfl⟩ | ⟨rfl, rfl, rfl, h1⟩ | ⟨rfl, ⟨a, rfl⟩, h1, rfl⟩ | ⟨rfl, ⟨a, b, rfl⟩, h1, rfl⟩ | ⟨rfl, ⟨a, b, c, rfl⟩, rfl, rfl⟩ | ⟨rfl, ⟨a, b, rfl⟩, rfl, rfl⟩ | ⟨rfl, ⟨a, rfl⟩, rfl, h1⟩ | ⟨rfl, ⟨a, rfl⟩, rfl, h1⟩ | ⟨rfl, ⟨a, b, rfl⟩, rfl, h1⟩
  · have := digits_len n
    rw [text_num, size_eq]; omega
  · rcases h1 with rfl | rfl
    · rw [text_bool0, size_eq]; simp [wFalse]; omega
    · rw [text_bool1, size_eq]; simp [wTrue]; omega
  · have := name_len h1
    rw [text_var, size_eq]; omega
  · have ha := hp a (by simp)
    rcases h1 with rfl | rfl
    · rw [text_neg, size_eq, sizes_cons]; simp; omega
    · rw [text_not, size_eq, sizes_cons]; simp [wNot, sp]; omega
  · have ha := hp a (by simp)
    have hb := hp b (by simp)
    have := opm_len n
    rw [text_bin, size_eq, sizes_cons, sizes_cons]; simp [sp]; omega
  · have ha := ht a (by simp)
    have hb := ht b (by simp)
    have hc := ht c (by simp)
    rw [text_if, size_eq, sizes_cons, sizes_cons, sizes_cons]; simp [wIf, wThen, wElse, sp]; omega
  · have ha := hp a (by simp)
    have hb := hp b (by simp)
    rw [text_arrow, size_eq, sizes_cons, sizes_cons]; simp [arrow, sp]; omega
  · have ha := hp a (by simp)
    have := name_len h1
    rw [text_when, size_eq, sizes_cons]; simp [wWhen, sp]; omega
  · have ha := hp a (by simp)
    have := name_len h1
    rw [text_unless, size_eq, sizes_cons]; simp [wUnless, sp]; omega
  · have ha := hp a (by simp)
    have hb := hp b (by simp)
    have := name_len h1
    rw [text_merge, size_eq, sizes_cons, sizes_cons]; simp [wMerge, sp]; omega
theorem bare_kinds (k : Int) : (k = 1 ∨ k = 2 ∨ k = 3 ∨ k = 8 ∨ k = 9) ∨ ((k == 1) = false ∧ (k == 2) = false ∧ (k == 3) = false ∧ (k == 8) = false ∧ (k == 9) = false) := by
  by_cases h : k = 1 ∨ k = 2 ∨ k = 3 ∨ k = 8 ∨ k = 9
  · exact .inl h
  · refine .inr ⟨?_, ?_, ?_, ?_, ?_⟩ <;> exact ne_of _ (fun e => h (by simp [e]))
theorem same_right {P : Program} {f : FuncId} {args : Array Value} {w : World} {v : Value} (h : Calls P f args w fun e w' => e = .returned v ∧ w = w') : Calls P f args w fun e w' => e = .returned v ∧ w' = w := h.mono fun _ _ ⟨h1, h2⟩ => ⟨h1, h2.symm⟩
theorem ret_str {a b : Lx.Bs} (h : b = a) : Ending.returned (.string ⟨a.toArray⟩) = .returned (.string ⟨b.toArray⟩) := by rw [h]
def ShowSaid (f : Nat) (t : Ex → Lx.Bs) (B : Nat → Prop) (x : Ex) (A : Option Addr) (cap : Nat) : Prop := ∀ W, At W B x A → Calls Try.prog f #[exAgg x A cap] W fun e w' => e = .returned (.string ⟨(t x).toArray⟩) ∧ Below W.heap.size W w'
set_option maxHeartbeats 4000000 in
theorem part_of {B : Nat → Prop} {x : Ex} {A : Option Addr} {cap : Nat} (h : ShowSaid 49 text B x A cap) (hl : (text x).length ≤ 100000) : ShowSaid 78 Tr.part B x A cap := by
  intro w hA
  have H := Lib.hid h
  have HA := Lib.hid hA
  have hp : Tr.part x = if bare x.kind = true then text x else [40] ++ text x ++ [41] := rfl
  rw [hp]
  clear h hA hp
  have HW0 := Lib.hid (fun V => (Below.refl w.heap.size w).alloc (Nat.le_refl _) V)
  obtain ⟨k, n, m, s⟩ := x
  have hkk : Ex.kind (.mk k n m s) = k := rfl
  rw [hkk]
  have HC : Hid (∀ W, At W B (.mk k n m s) A → Calls Try.prog 49 #[.agg #[.int .i64 k, .int .i32 n, .string ⟨m.toArray⟩, .slice A s.length cap]] W fun e w' => e = .returned (.string ⟨(text (.mk k n m s)).toArray⟩) ∧ Below W.heap.size W w') := H.out
  unfold exAgg
  dsimp only [Ex.kind, Ex.n, Ex.name, Ex.sub]
  generalize hxx : Ex.mk k n m s = x at *
  clear H hkk hxx
  generalize text x = tx at *
  rcases bare_kinds k with hk | ⟨h1, h2, h3, h8, h9⟩
  · have hb : bare k = true := by rcases hk with rfl | rfl | rfl | rfl | rfl <;> rfl
    rw [if_pos hb]
    clear hb
    rcases hk with rfl | rfl | rfl | rfl | rfl
    all_goals
      go_enter Try.func78, Try.ntmps78
      go_wp2_with fail
      refine (HC.out _ (HA.out.below (HW0.out _) (Nat.le_refl _))).mono ?_
      rintro e w1 ⟨rfl, hb1⟩
      have HB := Lib.hid ((HW0.out _).trans (hb1.mono (by simp)))
      clear hb1
      go_wp2_with fail
      go_ret
      exact ⟨rfl, HB.out⟩
  · have hb : bare k = false := by unfold bare; rw [h1, h2, h3, h8, h9]; rfl
    rw [if_neg (by rw [hb]; decide)]
    clear hb
    go_enter Try.func78, Try.ntmps78
    go_wp2_with fail
    refine (HC.out _ (HA.out.below (HW0.out _) (Nat.le_refl _))).mono ?_
    rintro e w1 ⟨rfl, hb1⟩
    have HB := Lib.hid ((HW0.out _).trans (hb1.mono (by simp)))
    clear hb1
    go_wp2_with fail
    go_ret
    exact ⟨by simp, HB.out⟩
theorem infoStr : (Try.prog.info? 9).map (fun i => (i.zero, i.size, i.bytes)) = some (some (.string ⟨#[]⟩), 1, 16) := by kernel_rfl
def scells (l : List Lx.Bs) : List Value := l.map fun x => .string ⟨x.toArray⟩
theorem scells_len (l : List Lx.Bs) : (scells l).length = l.length := by unfold scells; rw [List.length_map]
theorem scells_snoc (l : List Lx.Bs) (x : Lx.Bs) : scells (l ++ [x]) = scells l ++ [.string ⟨x.toArray⟩] := by simp [scells]
theorem scells_one (l : List Lx.Bs) : ∀ u ∈ scells l, u.oneCell' = true := by
  intro u hu
  obtain ⟨x, _, rfl⟩ := List.mem_map.1 hu
  rfl
theorem scells_get {w : World} {base : Nat} {e : TypeId} {A : Option Addr} {c n : Nat} {l : List Lx.Bs} (h : w.ownsRow base e 1 (.slice A n c) n (scells l)) (hn : n = l.length) (j : Nat) (hj : j < l.length) : ∃ g, A = some ⟨g, 0, none⟩ ∧ w.cell? ⟨g, j, none⟩ = some (.string ⟨(l[j]'hj).toArray⟩) := by
  subst hn
  have hsrc := Src.of_own h
  rcases A with _ | ad
  · have := (hsrc.none rfl).1; omega
  · rcases h.2 with ⟨hv, _⟩ | ⟨g, cap, cur, hv, _⟩
    · cases hv
    · injection hv with h1
      injection h1 with h1
      subst h1
      refine ⟨g, rfl, ?_⟩
      have := hsrc.some _ rfl j (.string ⟨(l[j]'hj).toArray⟩) (by unfold scells; rw [List.getElem?_map, List.getElem?_eq_getElem hj]; rfl)
      rwa [add_at] at this
theorem one_new (W : World) (v : Value) (t : TypeId) : ∀ j u, [v][j]? = some u → (W.alloc (.cells #[v] t)).cell? ((⟨W.heap.size, 0, none⟩ : Addr).add j) = some u := cells_new W #[v] t _ rfl
def showTo (k : Int) (s : List Ex) (j : Nat) : List Lx.Bs := (s.take j).map (if k == 6 then text else Tr.part)
theorem showTo_len (k : Int) (s : List Ex) (j : Nat) (h : j ≤ s.length) : (showTo k s j).length = j := by unfold showTo; simp; omega
theorem showTo_succ {k : Int} {s : List Ex} {j : Nat} (h : j < s.length) : showTo k s (j + 1) = showTo k s j ++ [(if k == 6 then text else Tr.part) (s[j]'h)] := by
  unfold showTo
  rw [List.take_succ_eq_append_getElem h, List.map_append]; rfl
theorem showTo_all (k : Int) (s : List Ex) : showTo k s s.length = texts (k == 6) s := by
  unfold showTo
  rw [List.take_length, texts_map]
set_option maxRecDepth 100000 in
set_option maxHeartbeats 8000000 in
theorem show_any (B : Nat → Prop) : ∀ (c : Nat) (x : Ex), size x ≤ c → size x ≤ 1000 → formed x = true → Fit x → ∀ (A : Option Addr) (cap : Nat), ShowSaid 49 text B x A cap := by
  intro c
  induction c with
  | zero => intro x h; have := size_pos x; omega
  | succ c ih =>
    intro x hc hlim hfm hfit A cap w hA
    have htl := text_len x hfm
    obtain ⟨k, n, m, s⟩ := x
    rw [at_eq] at hA
    rw [fit_eq] at hfit
    rw [size_eq] at hc hlim htl
    have HFC := Lib.hid (formed_cases hfm)
    have HFS : Hid (formeds s = true) := by rw [formed_eq, Bool.and_eq_true] at hfm; exact hfm.2
    have HA := Lib.hid hA
    have HM := Lib.hid hfit.2.1
    have HF := Lib.hid hfit.2.2.2
    have IH := Lib.hid ih
    have hs3 : s.length ≤ 3 := by
      rcases HFC.out with h | h | h | h | h | h | h | h | h | h
      · rw [h.2.1]; simp
      · rw [h.2.1]; simp
      · rw [h.2.1]; simp
      · obtain ⟨a, h⟩ := h.2.1; rw [h]; simp
      · obtain ⟨a, b, h⟩ := h.2.1; rw [h]; simp
      · obtain ⟨a, b, c, h⟩ := h.2.1; rw [h]; simp
      · obtain ⟨a, b, h⟩ := h.2.1; rw [h]; simp
      · obtain ⟨a, h⟩ := h.2.1; rw [h]; simp
      · obtain ⟨a, h⟩ := h.2.1; rw [h]; simp
      · obtain ⟨a, b, h⟩ := h.2.1; rw [h]; simp
    obtain ⟨r, hr⟩ : ∃ r, r = text (.mk k n m s) := ⟨_, rfl⟩
    rw [← hr] at htl ⊢
    have HR := Lib.hid hr
    clear hA hfit ih hfm hr
    unfold exAgg
    dsimp only [Ex.kind, Ex.n, Ex.name, Ex.sub]
    have HW0 := Lib.hid (fun V => (Below.refl w.heap.size w).alloc (Nat.le_refl _) V)
    rcases hk6 : (k == 6) with _ | _
    · skip
      go_enter Try.func49, Try.ntmps49
      go_wp2_with fail
      go_loopw [3, 9] (fun v i wr => ∃ j : Nat, j ≤ s.length ∧ i = .int .i64 j ∧ Hid (wr.ownsRow (w.heap.size + 1) 9 1 v j (scells (showTo k s j))) ∧ Below w.heap.size w wr ∧ (wr.cell? ⟨w.heap.size, 0, none⟩ = some (.int .i64 k) ∧ wr.cell? ⟨w.heap.size, 1, none⟩ = some (.int .i32 n) ∧ wr.cell? ⟨w.heap.size, 2, none⟩ = some (.string ⟨m.toArray⟩)) ∧ w.heap.size < wr.heap.size) (fun _ i _ => s.length - (intOf i).toNat)
      case atStart => exact ⟨0, Nat.zero_le _, rfl, World.ownsRow_nil _ _ _ _, HW0.out _, by simp [go_sem], by simp⟩
      case round =>
        obtain ⟨j, hj, rfl, HO, hb, ⟨e0, e1, e2⟩, hz⟩ := hrel
        by_cases hlt : j < s.length
        · obtain ⟨b, off, A', c', rfl, hbl, c0, c1, c2, c3, hx⟩ := HA.out.in_ hb j hlt
          have hmem := List.getElem_mem hlt
          have hsz := size_mem hmem
          have hfy := formeds_mem HFS.out hmem
          have hty := text_len _ hfy
          have HPY : Hid (ShowSaid 78 (Tr.part) B (s[j]'hlt) A' c') := part_of (IH.out _ (by omega) (by omega) hfy (HF.out.mem hmem) A' c') (by omega)
          have HS := Lib.hid (showTo_succ (k := k) hlt)
          generalize hy : s[j]'hlt = y at *
          have HX := Lib.hid hx
          have HHK := Lib.hid hk6
          obtain ⟨ty, hty2⟩ : ∃ ty, ty = (Tr.part) y := ⟨_, rfl⟩
          have HC : Hid (∀ W, At W B y A' → Calls Try.prog 78 #[exAgg y A' c'] W fun e w' => e = .returned (.string ⟨ty.toArray⟩) ∧ Below W.heap.size W w') := by rw [hty2]; exact HPY.out
          have HTY := Lib.hid hty2
          obtain ⟨i0, hi, hz0, hz1, hz2⟩ := info_parts infoStr
          clear hx hy hmem hfy hty hty2 HPY
          go_wp2_with fail
          refine (HC.out _ (HX.out.below ((Below.refl _ _).alloc (Nat.le_refl _) _) (Nat.le_refl _))).mono ?_
          rintro e w1 ⟨rfl, hb1⟩
          have hown1 := Lib.hid (own_below (HO.out.alloc _) hb1)
          have hlt1 := Lib.hid HO.out.lt
          obtain ⟨hz1', hb1'⟩ := below_up hb1
          have HB1 := Lib.hid (hb.trans (hb1'.mono hb.size))
          have g0 := (hb1'.cell (p := ⟨w.heap.size, 0, none⟩) hz).trans e0
          have g1 := (hb1'.cell (p := ⟨w.heap.size, 1, none⟩) hz).trans e1
          have g2 := (hb1'.cell (p := ⟨w.heap.size, 2, none⟩) hz).trans e2
          have hz3 : w.heap.size < w1.heap.size := by omega
          clear hb1 hb1' e0 e1 e2
          go_wp2_with ((at_builtin; refine wpList_append_own _ rfl _ _ 85 rfl (w.heap.size + 1) 9 i0 (.string ⟨#[]⟩) 1 16 Try.underlying85 hi hz0 hz1 hz2 rfl (by decide) _ _ _ rfl (hown1.out.alloc _) ⟨w1.heap.size, 0, none⟩ 1 1 [.string ⟨ty.toArray⟩] rfl rfl (one_new _ _ _) (by intro u hu; obtain rfl := List.mem_singleton.1 hu; rfl) (by unfold maxLen; omega) (by omega) (by simp; omega) ?_))
          intro v' w2 hown2 hgrow _
          have hne2 : some w.heap.size ≠ Value.ownBlock _ := fun e => by have := (hlt1.out _ e.symm).1; omega
          have g0' := hgrow.cell (a := ⟨w.heap.size, 0, none⟩) ((World.cell?_alloc_lt _ _ _ hz3).trans g0) hne2
          have g1' := hgrow.cell (a := ⟨w.heap.size, 1, none⟩) ((World.cell?_alloc_lt _ _ _ hz3).trans g1) hne2
          have g2' := hgrow.cell (a := ⟨w.heap.size, 2, none⟩) ((World.cell?_alloc_lt _ _ _ hz3).trans g2) hne2
          have hz4 := hgrow.size
          have HB2 := Lib.hid ((HB1.out.alloc HB1.out.size _).grown hgrow (by have := HB1.out.size; simp; omega) (fun k hk => by have := (hlt1.out k hk).1; omega))
          have HO2 := Lib.hid hown2
          have hz5 : w.heap.size < w2.heap.size := by simp at hz4; omega
          have hk6 := HHK.out
          clear hown2 hgrow hne2 hz4 g0 g1 g2
          go_wp2_with fail
          go_roundw
          case rel =>
            refine ⟨j + 1, by omega, by go_num, ?_, HB2.out, ⟨g0', g1', g2'⟩, hz5⟩
            have h1 := HO2.out
            unfold RowKit.Hid
            rw [HS.out, scells_snoc]
            rw [hk6]
            rw [HTY.out] at h1
            exact h1
          case measure => simp [intOf]; omega
        · obtain rfl : j = s.length := by omega
          have HON := HO.out
          rw [showTo_all] at HON
          obtain ⟨A3, c3, rfl⟩ := own_slice HON
          have hb6 := hk6
          clear HO
          rcases HFC.out with ⟨rfl, rfl, h1, rfl⟩ | ⟨rfl, rfl, h1, rfl⟩ | ⟨rfl, rfl, rfl, h1⟩ | ⟨rfl, ⟨a, rfl⟩, h1, rfl⟩ | ⟨rfl, ⟨a, b, rfl⟩, h1, rfl⟩ | ⟨rfl, ⟨a, b, c, rfl⟩, rfl, rfl⟩ | ⟨rfl, ⟨a, b, rfl⟩, rfl, rfl⟩ | ⟨rfl, ⟨a, rfl⟩, rfl, h1⟩ | ⟨rfl, ⟨a, rfl⟩, rfl, h1⟩ | ⟨rfl, ⟨a, b, rfl⟩, rfl, h1⟩
          · clear HFC
            obtain ⟨h1a, h1b⟩ := h1
            obtain ⟨a, rfl⟩ := Int.eq_ofNat_of_zero_le h1a
            clear HON
            go_wp2_with fail
            refine (wrapdigits a (by omega) _).mono ?_
            rintro e w1 ⟨rfl, hb1⟩
            have HB1 := Lib.hid (hb.trans (hb1.mono hb.size))
            clear hb1
            go_wp2_with fail
            go_ret
            exact ⟨ret_str (by rw [HR.out, text_num]), HB1.out⟩
          · clear HFC
            clear HON
            rcases h1 with rfl | rfl
            · go_wp2_with fail
              go_ret
              exact ⟨ret_str (by rw [HR.out, text_bool0]; rfl), hb⟩
            · go_wp2_with fail
              go_ret
              exact ⟨ret_str (by rw [HR.out, text_bool1]; rfl), hb⟩
          · clear HFC
            clear HON
            go_wp2_with fail
            go_ret
            exact ⟨ret_str (by rw [HR.out, text_var]), hb⟩
          · clear HFC
            rw [texts_map] at HON
            have hxs : List.map (if ((4 : Int) == 6) = true then text else Tr.part) [a] = [Tr.part a] := rfl
            rw [hxs] at HON
            clear hxs
            have hta := text_len a (formeds_mem HFS.out (by simp))
            have hpa := part_len a
            have hsa := size_mem (x := a) (s := [a]) (by simp)
            obtain ⟨g, rfl, k0⟩ := scells_get (l := [Tr.part a]) HON rfl 0 (by simp)
            have hla : (Tr.part a).length ≤ 100000 := by omega
            replace k0 : wr.cell? ⟨g, 0, none⟩ = some (.string ⟨(Tr.part a).toArray⟩) := k0
            generalize htxa : Tr.part a = ta at *
            have HTa := Lib.hid htxa
            clear HON htxa hta hpa hsa
            rcases h1 with rfl | rfl
            · go_wp2_with fail
              go_ret
              exact ⟨ret_str (by rw [HR.out, text_neg, HTa.out]; simp), hb⟩
            · go_wp2_with fail
              go_ret
              exact ⟨ret_str (by rw [HR.out, text_not, HTa.out]; simp [sp, wNot]), hb⟩
          · clear HFC
            rw [texts_map] at HON
            have hxs : List.map (if ((5 : Int) == 6) = true then text else Tr.part) [a, b] = [Tr.part a, Tr.part b] := rfl
            rw [hxs] at HON
            clear hxs
            have hta := text_len a (formeds_mem HFS.out (by simp))
            have hpa := part_len a
            have hsa := size_mem (x := a) (s := [a, b]) (by simp)
            have htb := text_len b (formeds_mem HFS.out (by simp))
            have hpb := part_len b
            have hsb := size_mem (x := b) (s := [a, b]) (by simp)
            obtain ⟨g, rfl, k0⟩ := scells_get (l := [Tr.part a, Tr.part b]) HON rfl 0 (by simp)
            obtain ⟨g', hgg, k1⟩ := scells_get (l := [Tr.part a, Tr.part b]) HON rfl 1 (by simp)
            obtain rfl : g = g' := by injection hgg with hgg; injection hgg
            clear hgg
            have hla : (Tr.part a).length ≤ 100000 := by omega
            have hlb : (Tr.part b).length ≤ 100000 := by omega
            replace k0 : wr.cell? ⟨g, 0, none⟩ = some (.string ⟨(Tr.part a).toArray⟩) := k0
            replace k1 : wr.cell? ⟨g, 1, none⟩ = some (.string ⟨(Tr.part b).toArray⟩) := k1
            generalize htxa : Tr.part a = ta at *
            have HTa := Lib.hid htxa
            generalize htxb : Tr.part b = tb at *
            have HTb := Lib.hid htxb
            clear HON htxa hta hpa hsa htxb htb hpb hsb
            have hml := opm_len n
            generalize hmm : opm n = mm at *
            have HMK : Hid (∀ W, Calls Try.prog 80 #[.int .i32 n] W fun e w' => e = .returned (.string ⟨mm.toArray⟩) ∧ W = w') := fun W => by rw [← hmm]; exact markof n h1.1 h1.2 W
            have HMM := Lib.hid hmm
            clear hmm
            go_wp2_with fail
            go_quiet ((go_at_call 80; exact Calls.quiet_of_same (same_right (HMK.out _))))
            go_wp2_with fail
            go_ret
            exact ⟨ret_str (by rw [HR.out, text_bin, HTa.out, HTb.out, HMM.out]; simp [sp]), below_drewN hb _⟩
          · clear HFC
            exact absurd hb6 (by decide)
          · clear HFC
            rw [texts_map] at HON
            have hxs : List.map (if ((7 : Int) == 6) = true then text else Tr.part) [a, b] = [Tr.part a, Tr.part b] := rfl
            rw [hxs] at HON
            clear hxs
            have hta := text_len a (formeds_mem HFS.out (by simp))
            have hpa := part_len a
            have hsa := size_mem (x := a) (s := [a, b]) (by simp)
            have htb := text_len b (formeds_mem HFS.out (by simp))
            have hpb := part_len b
            have hsb := size_mem (x := b) (s := [a, b]) (by simp)
            obtain ⟨g, rfl, k0⟩ := scells_get (l := [Tr.part a, Tr.part b]) HON rfl 0 (by simp)
            obtain ⟨g', hgg, k1⟩ := scells_get (l := [Tr.part a, Tr.part b]) HON rfl 1 (by simp)
            obtain rfl : g = g' := by injection hgg with hgg; injection hgg
            clear hgg
            have hla : (Tr.part a).length ≤ 100000 := by omega
            have hlb : (Tr.part b).length ≤ 100000 := by omega
            replace k0 : wr.cell? ⟨g, 0, none⟩ = some (.string ⟨(Tr.part a).toArray⟩) := k0
            replace k1 : wr.cell? ⟨g, 1, none⟩ = some (.string ⟨(Tr.part b).toArray⟩) := k1
            generalize htxa : Tr.part a = ta at *
            have HTa := Lib.hid htxa
            generalize htxb : Tr.part b = tb at *
            have HTb := Lib.hid htxb
            clear HON htxa hta hpa hsa htxb htb hpb hsb
            go_wp2_with fail
            go_quiet (fail)
            go_wp2_with fail
            go_ret
            exact ⟨ret_str (by rw [HR.out, text_arrow, HTa.out, HTb.out]; simp [sp, arrow]), below_drewN hb _⟩
          · clear HFC
            rw [texts_map] at HON
            have hxs : List.map (if ((8 : Int) == 6) = true then text else Tr.part) [a] = [Tr.part a] := rfl
            rw [hxs] at HON
            clear hxs
            have hta := text_len a (formeds_mem HFS.out (by simp))
            have hpa := part_len a
            have hsa := size_mem (x := a) (s := [a]) (by simp)
            obtain ⟨g, rfl, k0⟩ := scells_get (l := [Tr.part a]) HON rfl 0 (by simp)
            have hla : (Tr.part a).length ≤ 100000 := by omega
            replace k0 : wr.cell? ⟨g, 0, none⟩ = some (.string ⟨(Tr.part a).toArray⟩) := k0
            generalize htxa : Tr.part a = ta at *
            have HTa := Lib.hid htxa
            clear HON htxa hta hpa hsa
            have hnl := name_len h1
            go_wp2_with fail
            go_quiet (fail)
            go_wp2_with fail
            go_ret
            exact ⟨ret_str (by rw [HR.out, text_when, HTa.out]; simp [sp, wWhen]), below_drewN hb _⟩
          · clear HFC
            rw [texts_map] at HON
            have hxs : List.map (if ((9 : Int) == 6) = true then text else Tr.part) [a] = [Tr.part a] := rfl
            rw [hxs] at HON
            clear hxs
            have hta := text_len a (formeds_mem HFS.out (by simp))
            have hpa := part_len a
            have hsa := size_mem (x := a) (s := [a]) (by simp)
            obtain ⟨g, rfl, k0⟩ := scells_get (l := [Tr.part a]) HON rfl 0 (by simp)
            have hla : (Tr.part a).length ≤ 100000 := by omega
            replace k0 : wr.cell? ⟨g, 0, none⟩ = some (.string ⟨(Tr.part a).toArray⟩) := k0
            generalize htxa : Tr.part a = ta at *
            have HTa := Lib.hid htxa
            clear HON htxa hta hpa hsa
            have hnl := name_len h1
            go_wp2_with fail
            go_quiet (fail)
            go_wp2_with fail
            go_ret
            exact ⟨ret_str (by rw [HR.out, text_unless, HTa.out]; simp [sp, wUnless]), below_drewN hb _⟩
          · clear HFC
            rw [texts_map] at HON
            have hxs : List.map (if ((10 : Int) == 6) = true then text else Tr.part) [a, b] = [Tr.part a, Tr.part b] := rfl
            rw [hxs] at HON
            clear hxs
            have hta := text_len a (formeds_mem HFS.out (by simp))
            have hpa := part_len a
            have hsa := size_mem (x := a) (s := [a, b]) (by simp)
            have htb := text_len b (formeds_mem HFS.out (by simp))
            have hpb := part_len b
            have hsb := size_mem (x := b) (s := [a, b]) (by simp)
            obtain ⟨g, rfl, k0⟩ := scells_get (l := [Tr.part a, Tr.part b]) HON rfl 0 (by simp)
            obtain ⟨g', hgg, k1⟩ := scells_get (l := [Tr.part a, Tr.part b]) HON rfl 1 (by simp)
            obtain rfl : g = g' := by injection hgg with hgg; injection hgg
            clear hgg
            have hla : (Tr.part a).length ≤ 100000 := by omega
            have hlb : (Tr.part b).length ≤ 100000 := by omega
            replace k0 : wr.cell? ⟨g, 0, none⟩ = some (.string ⟨(Tr.part a).toArray⟩) := k0
            replace k1 : wr.cell? ⟨g, 1, none⟩ = some (.string ⟨(Tr.part b).toArray⟩) := k1
            generalize htxa : Tr.part a = ta at *
            have HTa := Lib.hid htxa
            generalize htxb : Tr.part b = tb at *
            have HTb := Lib.hid htxb
            clear HON htxa hta hpa hsa htxb htb hpb hsb
            have hnl := name_len h1
            go_wp2_with fail
            go_quiet (fail)
            go_wp2_with fail
            go_ret
            exact ⟨ret_str (by rw [HR.out, text_merge, HTa.out, HTb.out]; simp [sp, wMerge]), below_drewN hb _⟩
    · skip
      go_enter Try.func49, Try.ntmps49
      go_wp2_with fail
      go_loopw [3, 9] (fun v i wr => ∃ j : Nat, j ≤ s.length ∧ i = .int .i64 j ∧ Hid (wr.ownsRow (w.heap.size + 1) 9 1 v j (scells (showTo k s j))) ∧ Below w.heap.size w wr ∧ (wr.cell? ⟨w.heap.size, 0, none⟩ = some (.int .i64 k) ∧ wr.cell? ⟨w.heap.size, 1, none⟩ = some (.int .i32 n) ∧ wr.cell? ⟨w.heap.size, 2, none⟩ = some (.string ⟨m.toArray⟩)) ∧ w.heap.size < wr.heap.size) (fun _ i _ => s.length - (intOf i).toNat)
      case atStart => exact ⟨0, Nat.zero_le _, rfl, World.ownsRow_nil _ _ _ _, HW0.out _, by simp [go_sem], by simp⟩
      case round =>
        obtain ⟨j, hj, rfl, HO, hb, ⟨e0, e1, e2⟩, hz⟩ := hrel
        by_cases hlt : j < s.length
        · obtain ⟨b, off, A', c', rfl, hbl, c0, c1, c2, c3, hx⟩ := HA.out.in_ hb j hlt
          have hmem := List.getElem_mem hlt
          have hsz := size_mem hmem
          have hfy := formeds_mem HFS.out hmem
          have hty := text_len _ hfy
          have HPY : Hid (ShowSaid 49 (text) B (s[j]'hlt) A' c') := IH.out _ (by omega) (by omega) hfy (HF.out.mem hmem) A' c'
          have HS := Lib.hid (showTo_succ (k := k) hlt)
          generalize hy : s[j]'hlt = y at *
          have HX := Lib.hid hx
          have HHK := Lib.hid hk6
          obtain ⟨ty, hty2⟩ : ∃ ty, ty = (text) y := ⟨_, rfl⟩
          have HC : Hid (∀ W, At W B y A' → Calls Try.prog 49 #[exAgg y A' c'] W fun e w' => e = .returned (.string ⟨ty.toArray⟩) ∧ Below W.heap.size W w') := by rw [hty2]; exact HPY.out
          have HTY := Lib.hid hty2
          obtain ⟨i0, hi, hz0, hz1, hz2⟩ := info_parts infoStr
          clear hx hy hmem hfy hty hty2 HPY
          go_wp2_with fail
          refine (HC.out _ (HX.out.below ((Below.refl _ _).alloc (Nat.le_refl _) _) (Nat.le_refl _))).mono ?_
          rintro e w1 ⟨rfl, hb1⟩
          have hown1 := Lib.hid (own_below (HO.out.alloc _) hb1)
          have hlt1 := Lib.hid HO.out.lt
          obtain ⟨hz1', hb1'⟩ := below_up hb1
          have HB1 := Lib.hid (hb.trans (hb1'.mono hb.size))
          have g0 := (hb1'.cell (p := ⟨w.heap.size, 0, none⟩) hz).trans e0
          have g1 := (hb1'.cell (p := ⟨w.heap.size, 1, none⟩) hz).trans e1
          have g2 := (hb1'.cell (p := ⟨w.heap.size, 2, none⟩) hz).trans e2
          have hz3 : w.heap.size < w1.heap.size := by omega
          clear hb1 hb1' e0 e1 e2
          go_wp2_with ((at_builtin; refine wpList_append_own _ rfl _ _ 85 rfl (w.heap.size + 1) 9 i0 (.string ⟨#[]⟩) 1 16 Try.underlying85 hi hz0 hz1 hz2 rfl (by decide) _ _ _ rfl (hown1.out.alloc _) ⟨w1.heap.size, 0, none⟩ 1 1 [.string ⟨ty.toArray⟩] rfl rfl (one_new _ _ _) (by intro u hu; obtain rfl := List.mem_singleton.1 hu; rfl) (by unfold maxLen; omega) (by omega) (by simp; omega) ?_))
          intro v' w2 hown2 hgrow _
          have hne2 : some w.heap.size ≠ Value.ownBlock _ := fun e => by have := (hlt1.out _ e.symm).1; omega
          have g0' := hgrow.cell (a := ⟨w.heap.size, 0, none⟩) ((World.cell?_alloc_lt _ _ _ hz3).trans g0) hne2
          have g1' := hgrow.cell (a := ⟨w.heap.size, 1, none⟩) ((World.cell?_alloc_lt _ _ _ hz3).trans g1) hne2
          have g2' := hgrow.cell (a := ⟨w.heap.size, 2, none⟩) ((World.cell?_alloc_lt _ _ _ hz3).trans g2) hne2
          have hz4 := hgrow.size
          have HB2 := Lib.hid ((HB1.out.alloc HB1.out.size _).grown hgrow (by have := HB1.out.size; simp; omega) (fun k hk => by have := (hlt1.out k hk).1; omega))
          have HO2 := Lib.hid hown2
          have hz5 : w.heap.size < w2.heap.size := by simp at hz4; omega
          have hk6 := HHK.out
          clear hown2 hgrow hne2 hz4 g0 g1 g2
          go_wp2_with fail
          go_roundw
          case rel =>
            refine ⟨j + 1, by omega, by go_num, ?_, HB2.out, ⟨g0', g1', g2'⟩, hz5⟩
            have h1 := HO2.out
            unfold RowKit.Hid
            rw [HS.out, scells_snoc]
            rw [hk6]
            rw [HTY.out] at h1
            exact h1
          case measure => simp [intOf]; omega
        · obtain rfl : j = s.length := by omega
          have HON := HO.out
          rw [showTo_all] at HON
          obtain ⟨A3, c3, rfl⟩ := own_slice HON
          have hb6 := hk6
          clear HO
          rcases HFC.out with ⟨rfl, rfl, h1, rfl⟩ | ⟨rfl, rfl, h1, rfl⟩ | ⟨rfl, rfl, rfl, h1⟩ | ⟨rfl, ⟨a, rfl⟩, h1, rfl⟩ | ⟨rfl, ⟨a, b, rfl⟩, h1, rfl⟩ | ⟨rfl, ⟨a, b, c, rfl⟩, rfl, rfl⟩ | ⟨rfl, ⟨a, b, rfl⟩, rfl, rfl⟩ | ⟨rfl, ⟨a, rfl⟩, rfl, h1⟩ | ⟨rfl, ⟨a, rfl⟩, rfl, h1⟩ | ⟨rfl, ⟨a, b, rfl⟩, rfl, h1⟩
          · clear HFC
            exact absurd hb6 (by decide)
          · clear HFC
            exact absurd hb6 (by decide)
          · clear HFC
            exact absurd hb6 (by decide)
          · clear HFC
            exact absurd hb6 (by decide)
          · clear HFC
            exact absurd hb6 (by decide)
          · clear HFC
            rw [texts_map] at HON
            have hxs : List.map (if ((6 : Int) == 6) = true then text else Tr.part) [a, b, c] = [text a, text b, text c] := rfl
            rw [hxs] at HON
            clear hxs
            have hta := text_len a (formeds_mem HFS.out (by simp))
            have hpa := part_len a
            have hsa := size_mem (x := a) (s := [a, b, c]) (by simp)
            have htb := text_len b (formeds_mem HFS.out (by simp))
            have hpb := part_len b
            have hsb := size_mem (x := b) (s := [a, b, c]) (by simp)
            have htc := text_len c (formeds_mem HFS.out (by simp))
            have hpc := part_len c
            have hsc := size_mem (x := c) (s := [a, b, c]) (by simp)
            obtain ⟨g, rfl, k0⟩ := scells_get (l := [text a, text b, text c]) HON rfl 0 (by simp)
            obtain ⟨g', hgg, k1⟩ := scells_get (l := [text a, text b, text c]) HON rfl 1 (by simp)
            obtain rfl : g = g' := by injection hgg with hgg; injection hgg
            clear hgg
            obtain ⟨g', hgg, k2⟩ := scells_get (l := [text a, text b, text c]) HON rfl 2 (by simp)
            obtain rfl : g = g' := by injection hgg with hgg; injection hgg
            clear hgg
            have hla : (text a).length ≤ 100000 := by omega
            have hlb : (text b).length ≤ 100000 := by omega
            have hlc : (text c).length ≤ 100000 := by omega
            replace k0 : wr.cell? ⟨g, 0, none⟩ = some (.string ⟨(text a).toArray⟩) := k0
            replace k1 : wr.cell? ⟨g, 1, none⟩ = some (.string ⟨(text b).toArray⟩) := k1
            replace k2 : wr.cell? ⟨g, 2, none⟩ = some (.string ⟨(text c).toArray⟩) := k2
            generalize htxa : text a = ta at *
            have HTa := Lib.hid htxa
            generalize htxb : text b = tb at *
            have HTb := Lib.hid htxb
            generalize htxc : text c = tc at *
            have HTc := Lib.hid htxc
            clear HON htxa hta hpa hsa htxb htb hpb hsb htxc htc hpc hsc
            go_wp2_with fail
            go_quiet (fail)
            go_wp2_with fail
            go_ret
            exact ⟨ret_str (by rw [HR.out, text_if, HTa.out, HTb.out, HTc.out]; simp [sp, wIf, wThen, wElse]), below_drewN hb _⟩
          · clear HFC
            exact absurd hb6 (by decide)
          · clear HFC
            exact absurd hb6 (by decide)
          · clear HFC
            exact absurd hb6 (by decide)
          · clear HFC
            exact absurd hb6 (by decide)
end Go.Proofs.Ytilkilffkjhhbaa
