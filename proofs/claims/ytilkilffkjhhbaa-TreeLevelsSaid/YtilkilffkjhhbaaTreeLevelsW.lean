/-
  Of two marks the tighter one binds first: the walk.
-/
import Derived.Test.YtilkilffkjhhbaaTrK
import Derived.Test.YtilkilffkjhhbaaTrL12
import Derived.Test.YtilkilffkjhhbaaTrF
import Derived.Test.YtilkilffkjhhbaaTrB
import Derived.Test.YtilkilffkjhhbaaTrPb
namespace Go.Proofs.Ytilkilffkjhhbaa
set_option maxRecDepth 20000
set_option linter.unusedVariables false
open Go.RowKit Tr Mem

/-! the plain law -/
namespace Tr
set_option maxRecDepth 20000
set_option linter.unusedVariables false
def ops16 : List Int := [1, 2, 3, 4, 5, 6, 7, 8, 9, 10, 11, 12, 13, 14, 15, 16]
def lvToks (p q : Int) : List Lx.Tok := [nm [120], mk (opm p), nm [121], mk (opm q), nm [122]]
def eX : Ex := .mk 3 0 [120] []
def eY : Ex := .mk 3 0 [121] []
def eZ : Ex := .mk 3 0 [122] []
def lvWant (p q : Int) : Ex := if lv p < lv q then bin p eX (bin q eY eZ) else bin q (bin p eX eY) eZ
def lvCheck (p q : Int) : Bool :=
  !(P (lvToks p q) .expr (S 0)).2.bad && (if lv p = 2 ∧ lv q = 2 then (P (lvToks p q) .expr (S 0)).2.at_ == 3 else (P (lvToks p q) .expr (S 0)).2.at_ == 5 && same (P (lvToks p q) .expr (S 0)).1 (lvWant p q))
theorem lv_all : ops16.all (fun p => ops16.all (fun q => lvCheck p q)) = true := by decide +kernel
theorem in16 {o : Int} (h0 : 1 ≤ o) (h1 : o ≤ 16) : o ∈ ops16 := by
  unfold ops16
  simp only [List.mem_cons, List.not_mem_nil, or_false]
  omega
theorem lv_check {p q : Int} (h0 : 1 ≤ p) (h1 : p ≤ 16) (h2 : 1 ≤ q) (h3 : q ≤ 16) : lvCheck p q = true := List.all_eq_true.1 (List.all_eq_true.1 lv_all p (in16 h0 h1)) q (in16 h2 h3)
def lvText (p q : Int) : Lx.Bs := [120, 32] ++ opm p ++ [32, 121, 32] ++ opm q ++ [32, 122]
theorem lv_reads {p q : Int} (h0 : 1 ≤ p) (h1 : p ≤ 16) (h2 : 1 ≤ q) (h3 : q ≤ 16) : Reads (lvText p q) (lvToks p q) := by
  have w := ((((writes_name (w := [120]) (by decide)).sp (writes_mark (opm_mark p h0 h1))).sp (writes_name (w := [121]) (by decide))).sp (writes_mark (opm_mark q h2 h3))).sp (writes_name (w := [122]) (by decide))
  have := w [] [] (.inl rfl) reads_nil
  simpa [lvText, lvToks, sp] using this
theorem lv_len (p q : Int) : (lvText p q).length ≤ 11 := by
  have := opm_len p
  have := opm_len q
  unfold lvText
  simp; omega
/-- what the law asks of Expr -/
theorem lv_expr {p q : Int} (h0 : 1 ≤ p) (h1 : p ≤ 16) (h2 : 1 ≤ q) (h3 : q ≤ 16) : (Lx.scan (lvText p q)).2 = (0, 0) ∧
    ∃ (n : Nat) (x : Ex), exprT (Lx.scan (lvText p q)).1 0 (lvText p q).length = (x, (n : Int), 0, 0) ∧ (lv p = 2 ∧ lv q = 2 → n = 3) ∧ (¬ (lv p = 2 ∧ lv q = 2) → n = 5 ∧ x = lvWant p q) := by
  obtain ⟨a, b⟩ := (lv_reads h0 h1 h2 h3).scan (by have := lv_len p q; omega)
  refine ⟨a, ?_⟩
  generalize (Lx.scan (lvText p q)).1 = ts at *
  have e : stripL ts = lvToks p q := b
  have hc := lv_check h0 h1 h2 h3
  unfold lvCheck at hc
  rw [← e, P_strip] at hc
  unfold exprT
  rw [if_neg (by omega)]
  have e0 : (⟨(0 : Int).toNat, false⟩ : St) = S 0 := rfl
  rw [e0]
  generalize P ts .expr (S 0) = r at *
  obtain ⟨x, s⟩ := r
  simp only [Bool.and_eq_true, Bool.not_eq_true'] at hc
  obtain ⟨hb, hc⟩ := hc
  rw [hb, if_neg (by decide)]
  refine ⟨s.at_, x, rfl, fun h => ?_, fun h => ?_⟩
  · rw [if_pos h] at hc; simpa using hc
  · rw [if_neg h, Bool.and_eq_true] at hc
    exact ⟨by simpa using hc.1, (same_iff _ _).1 hc.2⟩
end Tr
set_option maxHeartbeats 4000000 in
theorem lvlevel (o : Int) (h0 : 1 ≤ o) (h1 : o ≤ 16) (w : World) : Calls Try.prog 27 #[.int .i64 o] w fun e w' => e = .returned (.int .i64 (lv o : Nat)) ∧ w = w' := by
  rcases (show o = 1 ∨ o = 2 ∨ o = 3 ∨ o = 4 ∨ o = 5 ∨ o = 6 ∨ o = 7 ∨ o = 8 ∨ o = 9 ∨ o = 10 ∨ o = 11 ∨ o = 12 ∨ o = 13 ∨ o = 14 ∨ o = 15 ∨ o = 16 by omega) with rfl | rfl | rfl | rfl | rfl | rfl | rfl | rfl | rfl | rfl | rfl | rfl | rfl | rfl | rfl | rfl
  all_goals
    go_enter Try.func27, Try.ntmps27
    go_wp2_with fail
    go_ret
    exact ⟨rfl, rfl⟩
theorem wfu8 {a : Int} (h : (Lit.int .u8 a).wf = true) : 0 ≤ a ∧ a ≤ 255 := by
  have h2 := (Lit.wf_int_iff _ _).1 h
  have e1 : IntKind.u8.min = 0 := by decide
  have e2 : IntKind.u8.max = 255 := by decide
  rw [e1, e2] at h2
  omega
theorem alloc4 (w : World) (a b c d : Array Value) (t : TypeId) : ∀ W, W = (((w.alloc (.cells a t)).alloc (.cells b t)).alloc (.cells c t)).alloc (.cells d t) →
    W.heap[w.heap.size]? = some (.cells a t (0, 0)) ∧ W.heap[w.heap.size + 1]? = some (.cells b t (0, 0)) ∧ W.heap[w.heap.size + 1 + 1]? = some (.cells c t (0, 0)) ∧ W.heap[w.heap.size + 1 + 1 + 1]? = some (.cells d t (0, 0)) ∧ Below w.heap.size w W ∧ W.heap.size = w.heap.size + 1 + 1 + 1 + 1 := by
  rintro W rfl
  have s1 : (w.alloc (.cells a t)).heap.size = w.heap.size + 1 := by simp
  have s2 : ((w.alloc (.cells a t)).alloc (.cells b t)).heap.size = w.heap.size + 1 + 1 := by simp
  have s3 : (((w.alloc (.cells a t)).alloc (.cells b t)).alloc (.cells c t)).heap.size = w.heap.size + 1 + 1 + 1 := by simp
  have h0 := heap_alloc_new w (.cells a t)
  have h1 := heap_alloc_new (w.alloc (.cells a t)) (.cells b t)
  have h2 := heap_alloc_new ((w.alloc (.cells a t)).alloc (.cells b t)) (.cells c t)
  have h3 := heap_alloc_new (((w.alloc (.cells a t)).alloc (.cells b t)).alloc (.cells c t)) (.cells d t)
  rw [s1] at h1
  rw [s2] at h2
  rw [s3] at h3
  exact ⟨row_alloc (row_alloc (row_alloc h0 _) _) _, row_alloc (row_alloc h1 _) _, row_alloc h2 _, h3, ((((Below.refl _ _).alloc (Nat.le_refl _) _).alloc (by rw [s1]; omega) _).alloc (by rw [s2]; omega) _).alloc (by rw [s3]; omega) _, by simp⟩
theorem alloc2 (w : World) (a b : Array Value) (t u : TypeId) : ∀ W, W = (w.alloc (.cells a t)).alloc (.cells b u) →
    W.heap[w.heap.size]? = some (.cells a t (0, 0)) ∧ W.heap[w.heap.size + 1]? = some (.cells b u (0, 0)) ∧ Below w.heap.size w W ∧ W.heap.size = w.heap.size + 1 + 1 := by
  rintro W rfl
  have s1 : (w.alloc (.cells a t)).heap.size = w.heap.size + 1 := by simp
  have h0 := heap_alloc_new w (.cells a t)
  have h1 := heap_alloc_new (w.alloc (.cells a t)) (.cells b u)
  rw [s1] at h1
  exact ⟨row_alloc h0 _, h1, ((Below.refl _ _).alloc (Nat.le_refl _) _).alloc (by simp) _, by simp⟩
theorem ex_one (k n : Int) (m : Lx.Bs) (A : Option Addr) (a b : Nat) : (#[.int .i64 k, .int .i32 n, .string ⟨m.toArray⟩, .slice A a b] : Array Value).all (·.oneCell') = true :=
  all_oneCell_toArray (cs := [.int .i64 k, .int .i32 n, .string ⟨m.toArray⟩, .slice A a b]) (by intro u hu; simp at hu; rcases hu with rfl | rfl | rfl | rfl <;> rfl)
theorem i32_small {p : Int} (h0 : 1 ≤ p) (h1 : p ≤ 16) : IntKind.i32.wrap p = p := IntWalk.i32_in _ (by omega)
theorem fit_want {p q : Int} (h0 : 1 ≤ p) (h1 : p ≤ 16) (h2 : 1 ≤ q) (h3 : q ≤ 16) : Fit (lvWant p q) := by
  have l : ∀ c, Fit (.mk 3 0 [c] []) := fun c => fit_mk (by omega) (by unfold maxLen; simp) (by simp) (by simp)
  have b : ∀ (o : Int) (x y : Ex), 1 ≤ o → o ≤ 16 → Fit x → Fit y → Fit (bin o x y) := fun o x y a b hx hy => fit_mk (by omega) (by simp) (by simp) (by
    intro z hz
    simp only [List.mem_cons, List.not_mem_nil, or_false] at hz
    rcases hz with rfl | rfl
    · exact hx
    · exact hy)
  unfold lvWant
  split
  · exact b _ _ _ h0 h1 (l _) (b _ _ _ h2 h3 (l _) (l _))
  · exact b _ _ _ h2 h3 (b _ _ _ h0 h1 (l _) (l _)) (l _)
set_option maxHeartbeats 8000000 in
theorem treeLevels_walk (w : World) (a : Int) (wa : (Lit.int .u8 a).wf = true) (b : Int) (wb : (Lit.int .u8 b).wf = true) :
    Calls Try.prog 8 #[.int .u8 a, .int .u8 b] w fun e w' => e = .returned (.bool true) ∧ Below w.heap.size w w' := by
  have ha := wfu8 wa
  have hb := wfu8 wb
  clear wa wb
  have HK := Lib.hid (fun W => known_any W)
  go_enter Try.func8, Try.ntmps8
  go_upto_region 3 with (fail)
  obtain ⟨p, hp⟩ : ∃ p, p = 1 + a % 16 := ⟨_, rfl⟩
  obtain ⟨q, hq⟩ : ∃ q, q = 1 + b % 16 := ⟨_, rfl⟩
  rw [← hp, ← hq]
  have hp0 : 1 ≤ p := by omega
  have hp1 : p ≤ 16 := by omega
  have hq0 : 1 ≤ q := by omega
  have hq1 : q ≤ 16 := by omega
  generalize a % 16 = am at *
  generalize b % 16 = bm at *
  clear hp hq ha hb
  have hpl := opm_len p
  have hql := opm_len q
  have HOP := Lib.hid (fun W => refops p hp0 hp1 W)
  have HOQ := Lib.hid (fun W => refops q hq0 hq1 W)
  have HLP := Lib.hid (fun W => lvlevel p hp0 hp1 W)
  have HLQ := Lib.hid (fun W => lvlevel q hq0 hq1 W)
  have HLV := Lib.hid (lv_expr hp0 hp1 hq0 hq1)
  have hlt := lv_len p q
  have HSTR : ∀ x, x = lvText p q → Value.string ((((ByteArray.mk (List.toArray [120, 32]) ++ ByteArray.mk (opm p).toArray) ++ ByteArray.mk (List.toArray [32, 121, 32])) ++ ByteArray.mk (opm q).toArray) ++ ByteArray.mk (List.toArray [32, 122])) = .string ⟨x.toArray⟩ := fun x h => by
    simp only [ba_append]; rw [h]; rfl
  have HST := Lib.hid HSTR
  clear HSTR
  obtain ⟨tx, htx⟩ : ∃ t, t = lvText p q := ⟨_, rfl⟩
  rw [← htx] at HLV hlt
  have HTX := Lib.hid (HST.out tx htx)
  clear htx HST
  obtain ⟨m1, hm1⟩ : ∃ m, m = opm p := ⟨_, rfl⟩
  obtain ⟨m2, hm2⟩ : ∃ m, m = opm q := ⟨_, rfl⟩
  rw [← hm1] at HOP hpl HTX
  rw [← hm2] at HOQ hql HTX
  clear hm1 hm2
  go_wp2_with fail
  refine (HOP.out _).mono ?_
  rintro e w1 ⟨rfl, hb1⟩
  have HB1 := Lib.hid hb1
  clear hb1
  go_wp2_with fail
  refine (HOQ.out _).mono ?_
  rintro e w2 ⟨rfl, hb2⟩
  have HB2 := Lib.hid (HB1.out.trans (hb2.mono HB1.out.size))
  clear hb2
  go_upto_region 4 with (fail)
  rw [HTX.out]
  clear HTX HOP HOQ hpl hql
  have HSC := Lib.hid (fun W => lexscan tx (by unfold maxLen; omega) W)
  unfold ScanGives at HSC
  have hln := scan_len tx
  obtain ⟨hs2, n, x, hx, hn3, hn5⟩ := HLV.out
  clear HLV
  generalize Lx.scan tx = sc at *
  obtain ⟨ts, se, sp⟩ := sc
  dsimp only at *
  simp only [Prod.mk.injEq] at hs2
  obtain ⟨rfl, rfl⟩ := hs2
  have hX := Lib.hid hx
  clear hx
  go_wp2_with fail
  refine (HSC.out _).mono ?_
  rintro e w3 ⟨v, rfl, ho, hb3⟩
  obtain ⟨A, c, rfl⟩ := own_slice ho
  have HO := Lib.hid ho
  have HB3 := Lib.hid (HB2.out.trans (hb3.mono HB2.out.size))
  clear ho hb3 HB2 HB1
  go_wp2_with fail
  refine (texpr A c ts 0 tx.length w3 (TokAt.of_own HO.out) hln (fun b o q e => by subst e; exact (HO.out.lt b rfl).2)).mono ?_
  rw [hX.out]
  rintro e w4 ⟨A', c', rfl, hat, hb4⟩
  have HAT := Lib.hid hat
  have HB4 := Lib.hid (HB3.out.trans (hb4.mono HB3.out.size))
  clear hat hb4 HO HB3 hX
  unfold exAgg
  dsimp only
  go_upto_region 9 with (fail)
  obtain ⟨W5, hW5⟩ : ∃ W, W = (((w4.alloc (.cells #[.int .i64 x.kind, .int .i32 x.n, .string ⟨x.name.toArray⟩, .slice A' x.sub.length c'] 43)).alloc (.cells #[.int .i64 3, .int .i32 0, .string ⟨#[120]⟩, .slice none 0 0] 43)).alloc (.cells #[.int .i64 3, .int .i32 0, .string ⟨#[121]⟩, .slice none 0 0] 43)).alloc (.cells #[.int .i64 3, .int .i32 0, .string ⟨#[122]⟩, .slice none 0 0] 43) := ⟨_, rfl⟩
  rw [← hW5]
  obtain ⟨hrx, hr1, hr2, hr3, hb5, hs5⟩ := alloc4 _ _ _ _ _ _ _ hW5
  have HB5 := Lib.hid (HB4.out.trans (hb5.mono HB4.out.size))
  have HAT5 := Lib.hid ((HAT.out.base (B' := fun b => b < w4.heap.size) (fun b _ hlt => hlt)).below hb5 (Nat.le_refl _))
  have hwg : w.heap.size ≤ w4.heap.size := HB4.out.size
  clear hW5 hb5 HAT HB4
  dsimp only at HAT5
  generalize w4.heap.size = g0 at *
  generalize hg1 : g0 + 1 = g1 at *
  generalize hg2 : g1 + 1 = g2 at *
  generalize hg3 : g2 + 1 = g3 at *
  have hn1 : g1 < g2 := by omega
  have hn2 : g2 < g3 := by omega
  have hn0 : g0 < g1 := by omega
  have hn4 : g3 < W5.heap.size := by omega
  clear hg1 hg2 hg3 hs5
  have HRX := Lib.hid hrx
  have HR1 := Lib.hid hr1
  have HR2 := Lib.hid hr2
  have HR3 := Lib.hid hr3
  clear hrx hr1 hr2 hr3
  by_cases hc : lv p = 2 ∧ lv q = 2
  · obtain rfl := hn3 hc
    rw [hc.1] at HLP
    rw [hc.2] at HLQ
    clear hn3 hn5
    go_wp2_with fail
    refine (HLP.out _).mono ?_
    rintro e w6 ⟨rfl, rfl⟩
    go_wp2_with fail
    refine (HLQ.out _).mono ?_
    rintro e w6 ⟨rfl, rfl⟩
    go_wp2_with fail
    refine (HK.out _).mono ?_
    rintro e w7 ⟨rfl, hb7⟩
    have HB7 := Lib.hid (HB5.out.trans (hb7.mono HB5.out.size))
    clear hb7
    go_wp2_with fail
    go_ret
    exact ⟨rfl, HB7.out⟩
  · obtain ⟨rfl, hxw⟩ := hn5 hc
    have HXW := Lib.hid hxw
    clear hn3 hn5 hxw
    have hw1 := i32_small hp0 hp1
    have hw2 := i32_small hq0 hq1
    have HSAME := Lib.hid (fun W K A B c d h1 h2 f => refSameExpr_any (fun b => b < g0) K (size x) x x (Nat.le_refl _) A B c d W h1 h2 f f)
    have hse : same x x = true := same_refl x
    rw [hse] at HSAME
    clear hse
    by_cases h1 : lv p = 2
    · have h2 : ((lv q : Int) == 2) = false := by
        have : lv q ≠ 2 := fun e => hc ⟨h1, e⟩
        simp; omega
      clear hc
      go_wp2_with fail
      refine (HLP.out _).mono ?_
      rintro e wz ⟨rfl, rfl⟩
      go_wp2_with fail
      refine (HLQ.out _).mono ?_
      rintro e wz ⟨rfl, rfl⟩
      go_upto_region 13 with (fail)
      obtain ⟨a0, a1, a2, a3, -⟩ := row4 HR1.out
      obtain ⟨b0, b1, b2, b3, -⟩ := row4 HR2.out
      go_upto_region 14 with (fail)
      generalize hs18 : W5.heap.size = s18 at *
      obtain ⟨W18, hW⟩ : ∃ W, W = (W5.alloc (.cells #[.int .i64 3, .int .i32 0, .string ⟨#[120]⟩, .slice none 0 0, .int .i64 3, .int .i32 0, .string ⟨#[121]⟩, .slice none 0 0] 43)).alloc (.cells #[.int .i64 5, .int .i32 p, .string ⟨#[]⟩, .slice (some ⟨s18, 0, none⟩) 2 2] 43) := ⟨_, rfl⟩
      rw [← hW]
      obtain ⟨hsl, hrw, hbw, hsz⟩ := alloc2 _ _ _ _ _ _ hW
      rw [hs18] at hsl hrw hsz
      generalize hr18 : s18 + 1 = r18 at *
      have xh_1 := Lib.hid ((hbw.block _ (Array.getElem?_eq_some_iff.1 HRX.out).1).trans HRX.out)
      have Xh_1 := Lib.hid ((hbw.block _ (Array.getElem?_eq_some_iff.1 HR1.out).1).trans HR1.out)
      have Yh_1 := Lib.hid ((hbw.block _ (Array.getElem?_eq_some_iff.1 HR2.out).1).trans HR2.out)
      have Zh_1 := Lib.hid ((hbw.block _ (Array.getElem?_eq_some_iff.1 HR3.out).1).trans HR3.out)
      have HB_1 := Lib.hid (HB5.out.trans (hbw.mono HB5.out.size))
      have HT_1 := Lib.hid (HAT5.out.below hbw (Nat.le_refl _))
      clear HRX HR1 HR2 HR3 HB5 HAT5
      have HS18 := Lib.hid hsl
      have HW18 := Lib.hid hrw
      have hq18 : r18 < W18.heap.size := by omega
      have hv18 : s18 < r18 := by omega
      clear hW hsl hrw hbw hsz hr18 a0 a1 a2 a3 b0 b1 b2 b3 hs18
      obtain ⟨a0, a1, a2, a3, -⟩ := row4 Yh_1.out
      obtain ⟨b0, b1, b2, b3, -⟩ := row4 Zh_1.out
      go_upto_region 15 with (fail)
      generalize hs19 : W18.heap.size = s19 at *
      obtain ⟨W19, hW⟩ : ∃ W, W = (W18.alloc (.cells #[.int .i64 3, .int .i32 0, .string ⟨#[121]⟩, .slice none 0 0, .int .i64 3, .int .i32 0, .string ⟨#[122]⟩, .slice none 0 0] 43)).alloc (.cells #[.int .i64 5, .int .i32 q, .string ⟨#[]⟩, .slice (some ⟨s19, 0, none⟩) 2 2] 43) := ⟨_, rfl⟩
      rw [← hW]
      obtain ⟨hsl, hrw, hbw, hsz⟩ := alloc2 _ _ _ _ _ _ hW
      rw [hs19] at hsl hrw hsz
      generalize hr19 : s19 + 1 = r19 at *
      have xh_2 := Lib.hid ((hbw.block _ (Array.getElem?_eq_some_iff.1 xh_1.out).1).trans xh_1.out)
      have Xh_2 := Lib.hid ((hbw.block _ (Array.getElem?_eq_some_iff.1 Xh_1.out).1).trans Xh_1.out)
      have Yh_2 := Lib.hid ((hbw.block _ (Array.getElem?_eq_some_iff.1 Yh_1.out).1).trans Yh_1.out)
      have Zh_2 := Lib.hid ((hbw.block _ (Array.getElem?_eq_some_iff.1 Zh_1.out).1).trans Zh_1.out)
      have s18h_2 := Lib.hid ((hbw.block _ (Array.getElem?_eq_some_iff.1 HS18.out).1).trans HS18.out)
      have r18h_2 := Lib.hid ((hbw.block _ (Array.getElem?_eq_some_iff.1 HW18.out).1).trans HW18.out)
      have HB_2 := Lib.hid (HB_1.out.trans (hbw.mono HB_1.out.size))
      have HT_2 := Lib.hid (HT_1.out.below hbw (Nat.le_refl _))
      clear xh_1 Xh_1 Yh_1 Zh_1 HS18 HW18 HB_1 HT_1
      have HS19 := Lib.hid hsl
      have HW19 := Lib.hid hrw
      have hq19 : r19 < W19.heap.size := by omega
      have hv19 : s19 < r19 := by omega
      clear hW hsl hrw hbw hsz hr19 a0 a1 a2 a3 b0 b1 b2 b3 hs19
      obtain ⟨a0, a1, a2, a3, -⟩ := row4 r18h_2.out
      obtain ⟨b0, b1, b2, b3, -⟩ := row4 Zh_2.out
      go_upto_region 16 with (fail)
      generalize hs20 : W19.heap.size = s20 at *
      obtain ⟨W20, hW⟩ : ∃ W, W = (W19.alloc (.cells #[.int .i64 5, .int .i32 p, .string ⟨#[]⟩, .slice (some ⟨s18, 0, none⟩) 2 2, .int .i64 3, .int .i32 0, .string ⟨#[122]⟩, .slice none 0 0] 43)).alloc (.cells #[.int .i64 5, .int .i32 q, .string ⟨#[]⟩, .slice (some ⟨s20, 0, none⟩) 2 2] 43) := ⟨_, rfl⟩
      rw [← hW]
      obtain ⟨hsl, hrw, hbw, hsz⟩ := alloc2 _ _ _ _ _ _ hW
      rw [hs20] at hsl hrw hsz
      generalize hr20 : s20 + 1 = r20 at *
      have xh_3 := Lib.hid ((hbw.block _ (Array.getElem?_eq_some_iff.1 xh_2.out).1).trans xh_2.out)
      have Xh_3 := Lib.hid ((hbw.block _ (Array.getElem?_eq_some_iff.1 Xh_2.out).1).trans Xh_2.out)
      have Yh_3 := Lib.hid ((hbw.block _ (Array.getElem?_eq_some_iff.1 Yh_2.out).1).trans Yh_2.out)
      have Zh_3 := Lib.hid ((hbw.block _ (Array.getElem?_eq_some_iff.1 Zh_2.out).1).trans Zh_2.out)
      have s18h_3 := Lib.hid ((hbw.block _ (Array.getElem?_eq_some_iff.1 s18h_2.out).1).trans s18h_2.out)
      have r18h_3 := Lib.hid ((hbw.block _ (Array.getElem?_eq_some_iff.1 r18h_2.out).1).trans r18h_2.out)
      have s19h_3 := Lib.hid ((hbw.block _ (Array.getElem?_eq_some_iff.1 HS19.out).1).trans HS19.out)
      have r19h_3 := Lib.hid ((hbw.block _ (Array.getElem?_eq_some_iff.1 HW19.out).1).trans HW19.out)
      have HB_3 := Lib.hid (HB_2.out.trans (hbw.mono HB_2.out.size))
      have HT_3 := Lib.hid (HT_2.out.below hbw (Nat.le_refl _))
      clear xh_2 Xh_2 Yh_2 Zh_2 s18h_2 r18h_2 HS19 HW19 HB_2 HT_2
      have HS20 := Lib.hid hsl
      have HW20 := Lib.hid hrw
      have hq20 : r20 < W20.heap.size := by omega
      have hv20 : s20 < r20 := by omega
      clear hW hsl hrw hbw hsz hr20 a0 a1 a2 a3 b0 b1 b2 b3 hs20
      by_cases hlt2 : lv p < lv q
      · have hld : decide ((lv p : Int) < (lv q : Int)) = true := decide_eq_true (by omega)
        go_wp2_with fail
        refine (HLP.out _).mono ?_
        rintro e wz ⟨rfl, rfl⟩
        go_wp2_with fail
        refine (HLQ.out _).mono ?_
        rintro e wz ⟨rfl, rfl⟩
        obtain ⟨a0, a1, a2, a3, -⟩ := row4 Xh_3.out
        obtain ⟨b0, b1, b2, b3, -⟩ := row4 r19h_3.out
        go_upto_region 17 with (fail)
        go_wp2_with (refine wpList_store_row rfl 43 (.tmp 20) (.tmp 102) rfl r20 #[.int .i64 5, .int .i32 p, .string ⟨#[]⟩, .slice (some ⟨W20.heap.size, 0, none⟩) 2 2] rfl rfl 43 #[.int .i64 5, .int .i32 q, .string ⟨#[]⟩, .slice (some ⟨s20, 0, none⟩) 2 2] (row_alloc HW20.out _) infoExS rfl (ex_one _ _ _ _ _ _) ?_; apply haltAt)
        have hq20' := hq20
        generalize hs21 : W20.heap.size = s21 at *
        obtain ⟨Wa, hWa⟩ : ∃ W, W = W20.alloc (.cells #[.int .i64 3, .int .i32 0, .string ⟨#[120]⟩, .slice none 0 0, .int .i64 5, .int .i32 q, .string ⟨#[]⟩, .slice (some ⟨s19, 0, none⟩) 2 2] 43) := ⟨_, rfl⟩
        rw [← hWa]
        have hba : Below W20.heap.size W20 Wa := by rw [hWa]; exact (Below.refl _ _).alloc (Nat.le_refl _) _
        have hsa := heap_alloc_new W20 (.cells #[.int .i64 3, .int .i32 0, .string ⟨#[120]⟩, .slice none 0 0, .int .i64 5, .int .i32 q, .string ⟨#[]⟩, .slice (some ⟨s19, 0, none⟩) 2 2] 43)
        rw [hs21, ← hWa] at hsa
        have xh_51 := Lib.hid ((hba.block _ (Array.getElem?_eq_some_iff.1 xh_3.out).1).trans xh_3.out)
        have Xh_51 := Lib.hid ((hba.block _ (Array.getElem?_eq_some_iff.1 Xh_3.out).1).trans Xh_3.out)
        have Yh_51 := Lib.hid ((hba.block _ (Array.getElem?_eq_some_iff.1 Yh_3.out).1).trans Yh_3.out)
        have Zh_51 := Lib.hid ((hba.block _ (Array.getElem?_eq_some_iff.1 Zh_3.out).1).trans Zh_3.out)
        have s18h_51 := Lib.hid ((hba.block _ (Array.getElem?_eq_some_iff.1 s18h_3.out).1).trans s18h_3.out)
        have r18h_51 := Lib.hid ((hba.block _ (Array.getElem?_eq_some_iff.1 r18h_3.out).1).trans r18h_3.out)
        have s19h_51 := Lib.hid ((hba.block _ (Array.getElem?_eq_some_iff.1 s19h_3.out).1).trans s19h_3.out)
        have r19h_51 := Lib.hid ((hba.block _ (Array.getElem?_eq_some_iff.1 r19h_3.out).1).trans r19h_3.out)
        have s20h_51 := Lib.hid ((hba.block _ (Array.getElem?_eq_some_iff.1 HS20.out).1).trans HS20.out)
        have r20h_51 := Lib.hid ((hba.block _ (Array.getElem?_eq_some_iff.1 HW20.out).1).trans HW20.out)
        have HB_51 := Lib.hid (HB_3.out.trans (hba.mono HB_3.out.size))
        have HT_51 := Lib.hid (HT_3.out.below hba (Nat.le_refl _))
        clear xh_3 Xh_3 Yh_3 Zh_3 s18h_3 r18h_3 s19h_3 r19h_3 HS20 HW20 HB_3 HT_3
        have HS21 := Lib.hid hsa
        clear hWa hba hsa hs21 a0 a1 a2 a3 b0 b1 b2 b3
        obtain ⟨Wb, hWb⟩ : ∃ W, W = Wa.setRow r20 #[.int .i64 5, .int .i32 p, .string ⟨#[]⟩, .slice (some ⟨s21, 0, none⟩) 2 2] := ⟨_, rfl⟩
        rw [← hWb]
        have rx : Wb.heap[g0]? = some (.cells #[.int .i64 x.kind, .int .i32 x.n, .string ⟨x.name.toArray⟩, .slice A' x.sub.length c'] 43 (0, 0)) := by rw [hWb]; exact (setRow_other _ _ _ _ (by omega)).trans xh_51.out
        have r19b : Wb.heap[s19]? = some (.cells #[.int .i64 3, .int .i32 0, .string ⟨#[121]⟩, .slice none 0 0, .int .i64 3, .int .i32 0, .string ⟨#[122]⟩, .slice none 0 0] 43 (0, 0)) := by rw [hWb]; exact (setRow_other _ _ _ _ (by omega)).trans s19h_51.out
        have r21b : Wb.heap[s21]? = some (.cells #[.int .i64 3, .int .i32 0, .string ⟨#[120]⟩, .slice none 0 0, .int .i64 5, .int .i32 q, .string ⟨#[]⟩, .slice (some ⟨s19, 0, none⟩) 2 2] 43 (0, 0)) := by rw [hWb]; exact (setRow_other _ _ _ _ (by omega)).trans HS21.out
        have r20b : Wb.heap[r20]? = some (.cells #[.int .i64 5, .int .i32 p, .string ⟨#[]⟩, .slice (some ⟨s21, 0, none⟩) 2 2] 43 (0, 0)) := by rw [hWb]; exact setRow_heap _ _ _ _ _ _ r20h_51.out
        have HBb : Hid (Below w.heap.size w Wb) := by unfold RowKit.Hid; rw [hWb]; exact below_setRow_ HB_51.out (by omega)
        have HTb : Hid (At Wb (fun b => b < g0) x A') := by unfold RowKit.Hid; rw [hWb]; exact HT_51.out.grown (grown_setRow _ _ _) (by omega)
        clear hWb
        unfold Halt
        go_upto_region 18 with (fail)
        obtain ⟨a0, a1, a2, a3, -⟩ := row4 rx
        obtain ⟨b0, b1, b2, b3, -⟩ := row4 r20b
        have hww : lvWant p q = bin p eX (bin q eY eZ) := by unfold lvWant; rw [if_pos hlt2]
        have hl1 : At Wb (fun _ => True) (bin q eY eZ) (some ⟨s19, 0, none⟩) := by
          unfold bin; rw [at_eq]; exact atL2 (x := eY) (y := eZ) r19b trivial (by unfold eY; rw [at_eq]; exact atL_nil _ _ _) (by unfold eZ; rw [at_eq]; exact atL_nil _ _ _)
        have hl2 : At Wb (fun _ => True) x (some ⟨s21, 0, none⟩) := by
          rw [HXW.out, hww]; unfold bin; rw [at_eq]; exact atL2 (x := eX) (y := bin q eY eZ) r21b trivial (by unfold eX; rw [at_eq]; exact atL_nil _ _ _) hl1
        have HFX : Hid (Fit x) := by unfold RowKit.Hid; rw [HXW.out]; exact fit_want hp0 hp1 hq0 hq1
        have HCC := Lib.hid (HSAME.out _ _ A' (some ⟨s21, 0, none⟩) c' 2 HTb.out hl2 HFX.out)
        have hcw : exAgg x (some ⟨s21, 0, none⟩) 2 = .agg #[.int .i64 5, .int .i32 p, .string ⟨#[]⟩, .slice (some ⟨s21, 0, none⟩) 2 2] := by rw [HXW.out, hww]; rfl
        rw [hcw] at HCC
        unfold exAgg at HCC
        clear hl1 hl2 hww hcw rx r19b r21b r20b
        go_wp2_with fail
        refine HCC.out.mono ?_
        rintro e w9 ⟨rfl, hb9⟩
        have HB9 := Lib.hid (HBb.out.trans (hb9.mono HBb.out.size))
        clear hb9
        go_wp2_with fail
        refine (HK.out _).mono ?_
        rintro e w10 ⟨rfl, hb10⟩
        have HB10 := Lib.hid (HB9.out.trans (hb10.mono HB9.out.size))
        clear hb10
        go_wp2_with fail
        go_ret
        exact ⟨rfl, HB10.out⟩
      · have hld : decide ((lv p : Int) < (lv q : Int)) = false := decide_eq_false (by omega)
        go_wp2_with fail
        refine (HLP.out _).mono ?_
        rintro e wz ⟨rfl, rfl⟩
        go_wp2_with fail
        refine (HLQ.out _).mono ?_
        rintro e wz ⟨rfl, rfl⟩
        go_upto_region 18 with (fail)
        obtain ⟨a0, a1, a2, a3, -⟩ := row4 xh_3.out
        obtain ⟨b0, b1, b2, b3, -⟩ := row4 HW20.out
        have hww : lvWant p q = bin q (bin p eX eY) eZ := by unfold lvWant; rw [if_neg hlt2]
        have hl1 : At W20 (fun _ => True) (bin p eX eY) (some ⟨s18, 0, none⟩) := by
          unfold bin; rw [at_eq]; exact atL2 (x := eX) (y := eY) s18h_3.out trivial (by unfold eX; rw [at_eq]; exact atL_nil _ _ _) (by unfold eY; rw [at_eq]; exact atL_nil _ _ _)
        have hl2 : At W20 (fun _ => True) x (some ⟨s20, 0, none⟩) := by
          rw [HXW.out, hww]; unfold bin; rw [at_eq]; exact atL2 (x := bin p eX eY) (y := eZ) HS20.out trivial hl1 (by unfold eZ; rw [at_eq]; exact atL_nil _ _ _)
        have HFX : Hid (Fit x) := by unfold RowKit.Hid; rw [HXW.out]; exact fit_want hp0 hp1 hq0 hq1
        have HCC := Lib.hid (HSAME.out _ _ A' (some ⟨s20, 0, none⟩) c' 2 HT_3.out hl2 HFX.out)
        have hcw : exAgg x (some ⟨s20, 0, none⟩) 2 = .agg #[.int .i64 5, .int .i32 q, .string ⟨#[]⟩, .slice (some ⟨s20, 0, none⟩) 2 2] := by rw [HXW.out, hww]; rfl
        rw [hcw] at HCC
        unfold exAgg at HCC
        clear hl1 hl2 hww hcw
        go_wp2_with fail
        refine HCC.out.mono ?_
        rintro e w9 ⟨rfl, hb9⟩
        have HB9 := Lib.hid (HB_3.out.trans (hb9.mono HB_3.out.size))
        clear hb9
        go_wp2_with fail
        refine (HK.out _).mono ?_
        rintro e w10 ⟨rfl, hb10⟩
        have HB10 := Lib.hid (HB9.out.trans (hb10.mono HB9.out.size))
        clear hb10
        go_wp2_with fail
        go_ret
        exact ⟨rfl, HB10.out⟩
    · have h2 : ((lv p : Int) == 2) = false := by simp; omega
      clear hc
      go_wp2_with fail
      refine (HLP.out _).mono ?_
      rintro e wz ⟨rfl, rfl⟩
      go_upto_region 13 with (fail)
      obtain ⟨a0, a1, a2, a3, -⟩ := row4 HR1.out
      obtain ⟨b0, b1, b2, b3, -⟩ := row4 HR2.out
      go_upto_region 14 with (fail)
      generalize hs18 : W5.heap.size = s18 at *
      obtain ⟨W18, hW⟩ : ∃ W, W = (W5.alloc (.cells #[.int .i64 3, .int .i32 0, .string ⟨#[120]⟩, .slice none 0 0, .int .i64 3, .int .i32 0, .string ⟨#[121]⟩, .slice none 0 0] 43)).alloc (.cells #[.int .i64 5, .int .i32 p, .string ⟨#[]⟩, .slice (some ⟨s18, 0, none⟩) 2 2] 43) := ⟨_, rfl⟩
      rw [← hW]
      obtain ⟨hsl, hrw, hbw, hsz⟩ := alloc2 _ _ _ _ _ _ hW
      rw [hs18] at hsl hrw hsz
      generalize hr18 : s18 + 1 = r18 at *
      have xh_1 := Lib.hid ((hbw.block _ (Array.getElem?_eq_some_iff.1 HRX.out).1).trans HRX.out)
      have Xh_1 := Lib.hid ((hbw.block _ (Array.getElem?_eq_some_iff.1 HR1.out).1).trans HR1.out)
      have Yh_1 := Lib.hid ((hbw.block _ (Array.getElem?_eq_some_iff.1 HR2.out).1).trans HR2.out)
      have Zh_1 := Lib.hid ((hbw.block _ (Array.getElem?_eq_some_iff.1 HR3.out).1).trans HR3.out)
      have HB_1 := Lib.hid (HB5.out.trans (hbw.mono HB5.out.size))
      have HT_1 := Lib.hid (HAT5.out.below hbw (Nat.le_refl _))
      clear HRX HR1 HR2 HR3 HB5 HAT5
      have HS18 := Lib.hid hsl
      have HW18 := Lib.hid hrw
      have hq18 : r18 < W18.heap.size := by omega
      have hv18 : s18 < r18 := by omega
      clear hW hsl hrw hbw hsz hr18 a0 a1 a2 a3 b0 b1 b2 b3 hs18
      obtain ⟨a0, a1, a2, a3, -⟩ := row4 Yh_1.out
      obtain ⟨b0, b1, b2, b3, -⟩ := row4 Zh_1.out
      go_upto_region 15 with (fail)
      generalize hs19 : W18.heap.size = s19 at *
      obtain ⟨W19, hW⟩ : ∃ W, W = (W18.alloc (.cells #[.int .i64 3, .int .i32 0, .string ⟨#[121]⟩, .slice none 0 0, .int .i64 3, .int .i32 0, .string ⟨#[122]⟩, .slice none 0 0] 43)).alloc (.cells #[.int .i64 5, .int .i32 q, .string ⟨#[]⟩, .slice (some ⟨s19, 0, none⟩) 2 2] 43) := ⟨_, rfl⟩
      rw [← hW]
      obtain ⟨hsl, hrw, hbw, hsz⟩ := alloc2 _ _ _ _ _ _ hW
      rw [hs19] at hsl hrw hsz
      generalize hr19 : s19 + 1 = r19 at *
      have xh_2 := Lib.hid ((hbw.block _ (Array.getElem?_eq_some_iff.1 xh_1.out).1).trans xh_1.out)
      have Xh_2 := Lib.hid ((hbw.block _ (Array.getElem?_eq_some_iff.1 Xh_1.out).1).trans Xh_1.out)
      have Yh_2 := Lib.hid ((hbw.block _ (Array.getElem?_eq_some_iff.1 Yh_1.out).1).trans Yh_1.out)
      have Zh_2 := Lib.hid ((hbw.block _ (Array.getElem?_eq_some_iff.1 Zh_1.out).1).trans Zh_1.out)
      have s18h_2 := Lib.hid ((hbw.block _ (Array.getElem?_eq_some_iff.1 HS18.out).1).trans HS18.out)
      have r18h_2 := Lib.hid ((hbw.block _ (Array.getElem?_eq_some_iff.1 HW18.out).1).trans HW18.out)
      have HB_2 := Lib.hid (HB_1.out.trans (hbw.mono HB_1.out.size))
      have HT_2 := Lib.hid (HT_1.out.below hbw (Nat.le_refl _))
      clear xh_1 Xh_1 Yh_1 Zh_1 HS18 HW18 HB_1 HT_1
      have HS19 := Lib.hid hsl
      have HW19 := Lib.hid hrw
      have hq19 : r19 < W19.heap.size := by omega
      have hv19 : s19 < r19 := by omega
      clear hW hsl hrw hbw hsz hr19 a0 a1 a2 a3 b0 b1 b2 b3 hs19
      obtain ⟨a0, a1, a2, a3, -⟩ := row4 r18h_2.out
      obtain ⟨b0, b1, b2, b3, -⟩ := row4 Zh_2.out
      go_upto_region 16 with (fail)
      generalize hs20 : W19.heap.size = s20 at *
      obtain ⟨W20, hW⟩ : ∃ W, W = (W19.alloc (.cells #[.int .i64 5, .int .i32 p, .string ⟨#[]⟩, .slice (some ⟨s18, 0, none⟩) 2 2, .int .i64 3, .int .i32 0, .string ⟨#[122]⟩, .slice none 0 0] 43)).alloc (.cells #[.int .i64 5, .int .i32 q, .string ⟨#[]⟩, .slice (some ⟨s20, 0, none⟩) 2 2] 43) := ⟨_, rfl⟩
      rw [← hW]
      obtain ⟨hsl, hrw, hbw, hsz⟩ := alloc2 _ _ _ _ _ _ hW
      rw [hs20] at hsl hrw hsz
      generalize hr20 : s20 + 1 = r20 at *
      have xh_3 := Lib.hid ((hbw.block _ (Array.getElem?_eq_some_iff.1 xh_2.out).1).trans xh_2.out)
      have Xh_3 := Lib.hid ((hbw.block _ (Array.getElem?_eq_some_iff.1 Xh_2.out).1).trans Xh_2.out)
      have Yh_3 := Lib.hid ((hbw.block _ (Array.getElem?_eq_some_iff.1 Yh_2.out).1).trans Yh_2.out)
      have Zh_3 := Lib.hid ((hbw.block _ (Array.getElem?_eq_some_iff.1 Zh_2.out).1).trans Zh_2.out)
      have s18h_3 := Lib.hid ((hbw.block _ (Array.getElem?_eq_some_iff.1 s18h_2.out).1).trans s18h_2.out)
      have r18h_3 := Lib.hid ((hbw.block _ (Array.getElem?_eq_some_iff.1 r18h_2.out).1).trans r18h_2.out)
      have s19h_3 := Lib.hid ((hbw.block _ (Array.getElem?_eq_some_iff.1 HS19.out).1).trans HS19.out)
      have r19h_3 := Lib.hid ((hbw.block _ (Array.getElem?_eq_some_iff.1 HW19.out).1).trans HW19.out)
      have HB_3 := Lib.hid (HB_2.out.trans (hbw.mono HB_2.out.size))
      have HT_3 := Lib.hid (HT_2.out.below hbw (Nat.le_refl _))
      clear xh_2 Xh_2 Yh_2 Zh_2 s18h_2 r18h_2 HS19 HW19 HB_2 HT_2
      have HS20 := Lib.hid hsl
      have HW20 := Lib.hid hrw
      have hq20 : r20 < W20.heap.size := by omega
      have hv20 : s20 < r20 := by omega
      clear hW hsl hrw hbw hsz hr20 a0 a1 a2 a3 b0 b1 b2 b3 hs20
      by_cases hlt2 : lv p < lv q
      · have hld : decide ((lv p : Int) < (lv q : Int)) = true := decide_eq_true (by omega)
        go_wp2_with fail
        refine (HLP.out _).mono ?_
        rintro e wz ⟨rfl, rfl⟩
        go_wp2_with fail
        refine (HLQ.out _).mono ?_
        rintro e wz ⟨rfl, rfl⟩
        obtain ⟨a0, a1, a2, a3, -⟩ := row4 Xh_3.out
        obtain ⟨b0, b1, b2, b3, -⟩ := row4 r19h_3.out
        go_upto_region 17 with (fail)
        go_wp2_with (refine wpList_store_row rfl 43 (.tmp 20) (.tmp 102) rfl r20 #[.int .i64 5, .int .i32 p, .string ⟨#[]⟩, .slice (some ⟨W20.heap.size, 0, none⟩) 2 2] rfl rfl 43 #[.int .i64 5, .int .i32 q, .string ⟨#[]⟩, .slice (some ⟨s20, 0, none⟩) 2 2] (row_alloc HW20.out _) infoExS rfl (ex_one _ _ _ _ _ _) ?_; apply haltAt)
        have hq20' := hq20
        generalize hs21 : W20.heap.size = s21 at *
        obtain ⟨Wa, hWa⟩ : ∃ W, W = W20.alloc (.cells #[.int .i64 3, .int .i32 0, .string ⟨#[120]⟩, .slice none 0 0, .int .i64 5, .int .i32 q, .string ⟨#[]⟩, .slice (some ⟨s19, 0, none⟩) 2 2] 43) := ⟨_, rfl⟩
        rw [← hWa]
        have hba : Below W20.heap.size W20 Wa := by rw [hWa]; exact (Below.refl _ _).alloc (Nat.le_refl _) _
        have hsa := heap_alloc_new W20 (.cells #[.int .i64 3, .int .i32 0, .string ⟨#[120]⟩, .slice none 0 0, .int .i64 5, .int .i32 q, .string ⟨#[]⟩, .slice (some ⟨s19, 0, none⟩) 2 2] 43)
        rw [hs21, ← hWa] at hsa
        have xh_51 := Lib.hid ((hba.block _ (Array.getElem?_eq_some_iff.1 xh_3.out).1).trans xh_3.out)
        have Xh_51 := Lib.hid ((hba.block _ (Array.getElem?_eq_some_iff.1 Xh_3.out).1).trans Xh_3.out)
        have Yh_51 := Lib.hid ((hba.block _ (Array.getElem?_eq_some_iff.1 Yh_3.out).1).trans Yh_3.out)
        have Zh_51 := Lib.hid ((hba.block _ (Array.getElem?_eq_some_iff.1 Zh_3.out).1).trans Zh_3.out)
        have s18h_51 := Lib.hid ((hba.block _ (Array.getElem?_eq_some_iff.1 s18h_3.out).1).trans s18h_3.out)
        have r18h_51 := Lib.hid ((hba.block _ (Array.getElem?_eq_some_iff.1 r18h_3.out).1).trans r18h_3.out)
        have s19h_51 := Lib.hid ((hba.block _ (Array.getElem?_eq_some_iff.1 s19h_3.out).1).trans s19h_3.out)
        have r19h_51 := Lib.hid ((hba.block _ (Array.getElem?_eq_some_iff.1 r19h_3.out).1).trans r19h_3.out)
        have s20h_51 := Lib.hid ((hba.block _ (Array.getElem?_eq_some_iff.1 HS20.out).1).trans HS20.out)
        have r20h_51 := Lib.hid ((hba.block _ (Array.getElem?_eq_some_iff.1 HW20.out).1).trans HW20.out)
        have HB_51 := Lib.hid (HB_3.out.trans (hba.mono HB_3.out.size))
        have HT_51 := Lib.hid (HT_3.out.below hba (Nat.le_refl _))
        clear xh_3 Xh_3 Yh_3 Zh_3 s18h_3 r18h_3 s19h_3 r19h_3 HS20 HW20 HB_3 HT_3
        have HS21 := Lib.hid hsa
        clear hWa hba hsa hs21 a0 a1 a2 a3 b0 b1 b2 b3
        obtain ⟨Wb, hWb⟩ : ∃ W, W = Wa.setRow r20 #[.int .i64 5, .int .i32 p, .string ⟨#[]⟩, .slice (some ⟨s21, 0, none⟩) 2 2] := ⟨_, rfl⟩
        rw [← hWb]
        have rx : Wb.heap[g0]? = some (.cells #[.int .i64 x.kind, .int .i32 x.n, .string ⟨x.name.toArray⟩, .slice A' x.sub.length c'] 43 (0, 0)) := by rw [hWb]; exact (setRow_other _ _ _ _ (by omega)).trans xh_51.out
        have r19b : Wb.heap[s19]? = some (.cells #[.int .i64 3, .int .i32 0, .string ⟨#[121]⟩, .slice none 0 0, .int .i64 3, .int .i32 0, .string ⟨#[122]⟩, .slice none 0 0] 43 (0, 0)) := by rw [hWb]; exact (setRow_other _ _ _ _ (by omega)).trans s19h_51.out
        have r21b : Wb.heap[s21]? = some (.cells #[.int .i64 3, .int .i32 0, .string ⟨#[120]⟩, .slice none 0 0, .int .i64 5, .int .i32 q, .string ⟨#[]⟩, .slice (some ⟨s19, 0, none⟩) 2 2] 43 (0, 0)) := by rw [hWb]; exact (setRow_other _ _ _ _ (by omega)).trans HS21.out
        have r20b : Wb.heap[r20]? = some (.cells #[.int .i64 5, .int .i32 p, .string ⟨#[]⟩, .slice (some ⟨s21, 0, none⟩) 2 2] 43 (0, 0)) := by rw [hWb]; exact setRow_heap _ _ _ _ _ _ r20h_51.out
        have HBb : Hid (Below w.heap.size w Wb) := by unfold RowKit.Hid; rw [hWb]; exact below_setRow_ HB_51.out (by omega)
        have HTb : Hid (At Wb (fun b => b < g0) x A') := by unfold RowKit.Hid; rw [hWb]; exact HT_51.out.grown (grown_setRow _ _ _) (by omega)
        clear hWb
        unfold Halt
        go_upto_region 18 with (fail)
        obtain ⟨a0, a1, a2, a3, -⟩ := row4 rx
        obtain ⟨b0, b1, b2, b3, -⟩ := row4 r20b
        have hww : lvWant p q = bin p eX (bin q eY eZ) := by unfold lvWant; rw [if_pos hlt2]
        have hl1 : At Wb (fun _ => True) (bin q eY eZ) (some ⟨s19, 0, none⟩) := by
          unfold bin; rw [at_eq]; exact atL2 (x := eY) (y := eZ) r19b trivial (by unfold eY; rw [at_eq]; exact atL_nil _ _ _) (by unfold eZ; rw [at_eq]; exact atL_nil _ _ _)
        have hl2 : At Wb (fun _ => True) x (some ⟨s21, 0, none⟩) := by
          rw [HXW.out, hww]; unfold bin; rw [at_eq]; exact atL2 (x := eX) (y := bin q eY eZ) r21b trivial (by unfold eX; rw [at_eq]; exact atL_nil _ _ _) hl1
        have HFX : Hid (Fit x) := by unfold RowKit.Hid; rw [HXW.out]; exact fit_want hp0 hp1 hq0 hq1
        have HCC := Lib.hid (HSAME.out _ _ A' (some ⟨s21, 0, none⟩) c' 2 HTb.out hl2 HFX.out)
        have hcw : exAgg x (some ⟨s21, 0, none⟩) 2 = .agg #[.int .i64 5, .int .i32 p, .string ⟨#[]⟩, .slice (some ⟨s21, 0, none⟩) 2 2] := by rw [HXW.out, hww]; rfl
        rw [hcw] at HCC
        unfold exAgg at HCC
        clear hl1 hl2 hww hcw rx r19b r21b r20b
        go_wp2_with fail
        refine HCC.out.mono ?_
        rintro e w9 ⟨rfl, hb9⟩
        have HB9 := Lib.hid (HBb.out.trans (hb9.mono HBb.out.size))
        clear hb9
        go_wp2_with fail
        refine (HK.out _).mono ?_
        rintro e w10 ⟨rfl, hb10⟩
        have HB10 := Lib.hid (HB9.out.trans (hb10.mono HB9.out.size))
        clear hb10
        go_wp2_with fail
        go_ret
        exact ⟨rfl, HB10.out⟩
      · have hld : decide ((lv p : Int) < (lv q : Int)) = false := decide_eq_false (by omega)
        go_wp2_with fail
        refine (HLP.out _).mono ?_
        rintro e wz ⟨rfl, rfl⟩
        go_wp2_with fail
        refine (HLQ.out _).mono ?_
        rintro e wz ⟨rfl, rfl⟩
        go_upto_region 18 with (fail)
        obtain ⟨a0, a1, a2, a3, -⟩ := row4 xh_3.out
        obtain ⟨b0, b1, b2, b3, -⟩ := row4 HW20.out
        have hww : lvWant p q = bin q (bin p eX eY) eZ := by unfold lvWant; rw [if_neg hlt2]
        have hl1 : At W20 (fun _ => True) (bin p eX eY) (some ⟨s18, 0, none⟩) := by
          unfold bin; rw [at_eq]; exact atL2 (x := eX) (y := eY) s18h_3.out trivial (by unfold eX; rw [at_eq]; exact atL_nil _ _ _) (by unfold eY; rw [at_eq]; exact atL_nil _ _ _)
        have hl2 : At W20 (fun _ => True) x (some ⟨s20, 0, none⟩) := by
          rw [HXW.out, hww]; unfold bin; rw [at_eq]; exact atL2 (x := bin p eX eY) (y := eZ) HS20.out trivial hl1 (by unfold eZ; rw [at_eq]; exact atL_nil _ _ _)
        have HFX : Hid (Fit x) := by unfold RowKit.Hid; rw [HXW.out]; exact fit_want hp0 hp1 hq0 hq1
        have HCC := Lib.hid (HSAME.out _ _ A' (some ⟨s20, 0, none⟩) c' 2 HT_3.out hl2 HFX.out)
        have hcw : exAgg x (some ⟨s20, 0, none⟩) 2 = .agg #[.int .i64 5, .int .i32 q, .string ⟨#[]⟩, .slice (some ⟨s20, 0, none⟩) 2 2] := by rw [HXW.out, hww]; rfl
        rw [hcw] at HCC
        unfold exAgg at HCC
        clear hl1 hl2 hww hcw
        go_wp2_with fail
        refine HCC.out.mono ?_
        rintro e w9 ⟨rfl, hb9⟩
        have HB9 := Lib.hid (HB_3.out.trans (hb9.mono HB_3.out.size))
        clear hb9
        go_wp2_with fail
        refine (HK.out _).mono ?_
        rintro e w10 ⟨rfl, hb10⟩
        have HB10 := Lib.hid (HB9.out.trans (hb10.mono HB9.out.size))
        clear hb10
        go_wp2_with fail
        go_ret
        exact ⟨rfl, HB10.out⟩
end Go.Proofs.Ytilkilffkjhhbaa
