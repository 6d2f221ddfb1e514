/-
  The reference's lists of declarations.
  The reference's statement that reads an own variable and appends it, drawn.
  What stands in memory on the way through the reference's Parse; plain lemmas for its head.
-/
import Derived.Test.YtilkilffkjhhbaaTrZ9
import Derived.Test.YtilkilffkjhhbaaTrPse
namespace Go.Proofs.Ytilkilffkjhhbaa
set_option maxRecDepth 20000
set_option linter.unusedVariables false
open Go.RowKit Tr Mem

theorem fail_bad {s : St} (h : s.bad = true) : s.fail = s := by
  obtain ⟨a, b⟩ := s
  simp only at h
  subst h
  rfl
theorem need_badeq {ts : List Lx.Tok} {s : St} (h : s.bad = true) (m : Lx.Bs) : Tr.need ts s m = s := by
  unfold Tr.need
  rw [sees_bad h, if_neg (by decide)]
  exact fail_bad h
theorem name_badeq {ts : List Lx.Tok} {s : St} (h : s.bad = true) : (Tr.name ts s).2 = s := by
  unfold Tr.name Tr.token
  rw [isKind_bad h, if_neg (by decide)]
  exact fail_bad h
theorem declP_badeq {ts : List Lx.Tok} {s : St} (h : s.bad = true) : (declP ts s).2 = s := by
  unfold declP
  rw [name_badeq h, need_badeq h, sees_bad h, if_neg (by decide)]
  exact need_badeq h _
theorem declsL_badeq {ts : List Lx.Tok} {s : St} (h : s.bad = true) : (declsL ts s).2 = s := by
  rw [declsL_eq, declP_badeq h, sees_bad h, if_neg (by decide)]
  exact need_badeq h _
/-- what the reference's list hands back: nothing, where it does not come to its end -/
def rListOf (r : List Vr × St) : List Vr := if r.2.bad then [] else r.1
def rDeclsPost (w : World) (bp : Nat) (A : Option Addr) (c : Nat) (ts : List Lx.Tok) (r : List Vr × St) (e : Ending) (w' : World) : Prop :=
  ∃ v, e = .returned v ∧ w'.ownsRow w.heap.size 73 4 v (rListOf r).length (varsCells (rListOf r)) ∧ Took w bp 66 A c ts r.2 w'
theorem rdecls_nil {w w' : World} {bp : Nat} {A : Option Addr} {c : Nat} {ts : List Lx.Tok} {r : List Vr × St} (h : rListOf r = []) (hk : Took w bp 66 A c ts r.2 w') : rDeclsPost w bp A c ts r (.returned (.slice none 0 0)) w' :=
  ⟨_, rfl, by rw [h]; exact World.ownsRow_nil _ _ _ _, hk⟩
/-- the state at the loop's head -/
def ListAt (ts : List Lx.Tok) (r : List Vr × St) (done : List Vr) (s : St) : Prop := (s.bad = false → r = (done ++ (declsL ts s).1, (declsL ts s).2)) ∧ (s.bad = true → r.2 = s)
theorem ListAt.end_ {ts : List Lx.Tok} {r : List Vr × St} {done : List Vr} {s : St} (h : ListAt ts r done s) (hb : s.bad = true) : r.2 = s ∧ rListOf r = [] := by
  have e := h.2 hb
  refine ⟨e, ?_⟩
  unfold rListOf
  rw [e, hb]; rfl
theorem ListAt.last {ts : List Lx.Tok} {r : List Vr × St} {done : List Vr} {s : St} (h : ListAt ts r done s) (hb : s.bad = false) (h1 : sees ts (declP ts s).2 [41] = true) : r.2 = (declP ts s).2.adv ∧ rListOf r = done ++ [(declP ts s).1] := by
  have e := h.1 hb
  rw [declsL_eq, sees_txt h1 (by decide), if_neg (by decide)] at e
  have hn : Tr.need ts (declP ts s).2 [41] = (declP ts s).2.adv := by unfold Tr.need; rw [if_pos h1]
  rw [hn] at e
  have h2 : (declP ts s).2.adv.bad = false := (sees_lt h1).1
  rw [e]
  refine ⟨rfl, ?_⟩
  unfold rListOf
  dsimp only
  rw [h2]; rfl
theorem ListAt.next {ts : List Lx.Tok} {r : List Vr × St} {done : List Vr} {s : St} (h : ListAt ts r done s) (hb : s.bad = false) (h1 : sees ts (declP ts s).2 [41] = false) : ListAt ts r (done ++ [(declP ts s).1]) (Tr.need ts (declP ts s).2 [59]) := by
  have e := h.1 hb
  rw [declsL_eq] at e
  rcases h2 : sees ts (declP ts s).2 [59] with _ | _
  · rw [h2, if_neg (by decide)] at e
    have hn : Tr.need ts (declP ts s).2 [59] = (declP ts s).2.fail := by unfold Tr.need; rw [h2, if_neg (by decide)]
    have hn2 : Tr.need ts (declP ts s).2 [41] = (declP ts s).2.fail := by unfold Tr.need; rw [h1, if_neg (by decide)]
    rw [hn]
    refine ⟨fun hb => (by cases hb), fun _ => ?_⟩
    rw [e, hn2]
  · rw [h2, if_pos rfl] at e
    have hn : Tr.need ts (declP ts s).2 [59] = (declP ts s).2.adv := by unfold Tr.need; rw [h2, if_pos rfl]
    have hb2 : (declP ts s).2.adv.bad = false := (sees_lt h2).1
    rw [hn]
    refine ⟨fun _ => ?_, fun hb => by rw [hb2] at hb; cases hb⟩
    rw [e]; simp
set_option maxHeartbeats 8000000 in
theorem rlist_any (bp : Nat) (A : Option Addr) (c : Nat) (ts : List Lx.Tok) (s : St) (w : World) (h : RowAt w bp 66 A c ts s) :
    Calls Try.prog 38 #[.pointer (some ⟨bp, 0, none⟩)] w (rDeclsPost w bp A c ts (declsP ts s)) := by
  have HR := Lib.hid h
  have hbw := h.lt
  obtain ⟨r, hr⟩ : ∃ r, r = declsP ts s := ⟨_, rfl⟩
  rw [← hr]
  unfold declsP at hr
  clear h
  have HN := Lib.hid (fun W h => rneed_any bp A c ts s [40] W h)
  generalize Tr.need ts s [40] = s1 at *
  have HT := Lib.hid (fun W h => rtake_any bp A c ts s1 [41] W h)
  rcases h1 : sees ts s1 [41] with _ | _
  rotate_left
  · rw [h1, if_pos rfl] at hr HT
    clear h1
    have HL : Hid (rListOf r = []) := by rw [hr]; unfold RowKit.Hid rListOf; split <;> rfl
    have HS : Hid (r.2 = s1.adv) := by rw [hr]; rfl
    clear hr
    go_enter Try.func38, Try.ntmps38
    go_wp2_with fail
    refine (HN.out _ HR.out).mono ?_
    rintro e w1 ⟨rfl, hk1⟩
    have HK1 := Lib.hid hk1
    clear hk1
    go_wp2_with fail
    refine (HT.out _ HK1.out.1).mono ?_
    rintro e w2 ⟨rfl, hk2⟩
    have HK2 := Lib.hid (HK1.out.trans hk2)
    clear hk2
    go_wp2_with fail
    go_ret
    exact rdecls_nil HL.out (by rw [HS.out]; exact HK2.out)
  · rw [h1, if_neg (by decide)] at hr HT
    clear h1
    have HJ0 : Hid (ListAt ts r [] s1) := ⟨fun _ => by rw [hr]; rfl, fun hb => by rw [hr]; exact declsL_badeq hb⟩
    clear hr
    have HD := Lib.hid (fun s W h => rdeclared_any bp A c ts s W h)
    have HTK := Lib.hid (fun s W h => rtake_any bp A c ts s [41] W h)
    have HND := Lib.hid (fun s W h => rneed_any bp A c ts s [59] W h)
    go_enter Try.func38, Try.ntmps38
    go_wp2_with fail
    refine (HN.out _ HR.out).mono ?_
    rintro e w1 ⟨rfl, hk1⟩
    have HK1 := Lib.hid hk1
    clear hk1
    go_wp2_with fail
    refine (HT.out _ HK1.out.1).mono ?_
    rintro e w2 ⟨rfl, hk2⟩
    have HK2 := Lib.hid (HK1.out.trans hk2)
    clear hk2 HK1
    obtain ⟨i0, hi, hz0, hz1, hz2⟩ := info_parts infoVr
    go_wp2_with fail
    go_loopw [3] (fun v wr => ∃ (done : List Vr) (s' : St), Hid (ListAt ts r done s') ∧ (s'.bad = false → done.length ≤ s'.at_) ∧ Hid (wr.ownsRow w.heap.size 73 4 v done.length (varsCells done)) ∧ Hid (Took w bp 66 A c ts s' wr)) (fun _ wr => meas wr bp ts.length)
    case atStart => exact ⟨[], s1, HJ0.out, fun _ => Nat.zero_le _, World.ownsRow_nil _ _ _ _, HK2.out⟩
    case round =>
      clear HJ0 HK2
      obtain ⟨done, s', HJ, hdn, HO, HK⟩ := hrel
      have hle := HK.out.1.le
      have hlen := HK.out.1.len
      have hme := HK.out.1.meas ts.length
      obtain ⟨q0, q1, q2, q3, q4, q5⟩ := row6 HK.out.1
      rcases hb : s'.bad with _ | _
      rotate_left
      · have HE := Lib.hid (HJ.out.end_ hb)
        rw [hb] at q2
        clear hme
        go_wp2_with fail
        go_ret
        exact rdecls_nil HE.out.2 (by rw [HE.out.1]; exact HK.out)
      · rw [hb] at q2 hme
        have hdn := hdn hb
        have hda := declP_at (ts := ts) s'
        have hdk := declP_ok (ts := ts) (s := s')
        have HDD := Lib.hid (HD.out s')
        have HL1 := HJ.out.last hb
        have HN1 := HJ.out.next hb
        generalize declP ts s' = q at *
        obtain ⟨v2, s2⟩ := q
        dsimp only at hda hdk HL1 HN1
        have HTK2 := Lib.hid (HTK.out s2)
        have HND2 := Lib.hid (HND.out s2)
        have HDK := Lib.hid hdk
        rcases h2 : sees ts s2 [41] with _ | _
        · have HNX := Lib.hid (HN1 h2)
          rw [h2, if_neg (by decide)] at HTK2
          have hna := need_at (ts := ts) s2 [59]
          have hno := need_ok (ts := ts) (s := s2) (m := [59])
          generalize Tr.need ts s2 [59] = s3 at *
          have HMM : Hid ((s3.bad = false → s'.at_ < s3.at_) ∧ s'.at_ ≤ s3.at_ ∧ (s3.bad = false → s'.at_ + 1 ≤ s3.at_)) := by
            have h9 : s3.bad = false → s'.at_ < s3.at_ := fun h => by have := HDK.out (hno h).1; omega
            exact ⟨h9, by omega, h9⟩
          clear HN1 HL1 h2 hdk hno
          go_wp2_with fail
          refine (HDD.out _ HK.out.1).mono ?_
          rintro e w6 ⟨rfl, hk6⟩
          have HK6 := Lib.hid (HK.out.trans hk6)
          have HO6 := Lib.hid (own_took HO.out hk6 hbw)
          have hsz6 := HK6.out.2.size
          have hlo := HO6.out.lt
          clear hk6
          dsimp only at HK6
          unfold varAgg
          dsimp only
          go_wp2_with ((at_builtin; refine wpList_append_own _ rfl _ _ 23 rfl w.heap.size 73 i0 (.agg #[.string ⟨#[]⟩, .int .i64 0, .int .i64 0, .string ⟨#[]⟩]) 4 48 Try.underlying23 hi hz0 hz1 hz2 rfl (by decide) _ _ _ rfl (HO6.out.alloc _) ⟨w6.heap.size, 0, none⟩ 1 1 (varCells v2) rfl rfl ?c1 ?c2 ?c3 ?c4 ?c5 ?_))
          case c1 => exact Go.Proofs.Ytilkilffkjhhbaa.cells_new _ _ _ _ rfl
          case c2 => exact var_one _
          case c3 => unfold maxLen; omega
          case c4 => omega
          case c5 => simp; omega
          intro v' w7 hown7 hgrow _
          have HO7 := Lib.hid hown7
          have HK7 : Hid (Took w bp 66 A c ts s2 w7) := took_grown (HK6.out.alloc _) hgrow HR.out hlo
          clear hown7 hgrow
          go_wp2_with fail
          refine (HTK2.out _ HK7.out.1).mono ?_
          rintro e w8 ⟨rfl, hk8⟩
          have HK8 := Lib.hid (HK7.out.trans hk8)
          have HO8 := Lib.hid (own_took HO7.out hk8 hbw)
          clear hk8
          go_wp2_with fail
          refine (HND2.out _ HK8.out.1).mono ?_
          rintro e w9 ⟨rfl, hk9⟩
          have HK9 := Lib.hid (HK8.out.trans hk9)
          have HO9 := Lib.hid (own_took HO8.out hk9 hbw)
          clear hk9
          go_wp2_with fail
          go_roundw
          case rel => exact ⟨done ++ [v2], s3, HNX.out, fun h => by simp; have := HMM.out.2.2 h; omega, by rw [varsCells_snoc, List.length_append]; exact HO9.out, HK9.out⟩
          case measure => rw [hme, HK9.out.1.meas]; have := HK9.out.1.le; rcases hb3 : s3.bad with _ | _ <;> first | (have := HMM.out.1 hb3; simp; omega) | (have := HMM.out.2.1; simp; omega)
        · have HLL := Lib.hid (HL1 h2)
          rw [h2, if_pos rfl] at HTK2
          clear HN1 HL1 h2 hdk
          go_wp2_with fail
          refine (HDD.out _ HK.out.1).mono ?_
          rintro e w6 ⟨rfl, hk6⟩
          have HK6 := Lib.hid (HK.out.trans hk6)
          have HO6 := Lib.hid (own_took HO.out hk6 hbw)
          have hsz6 := HK6.out.2.size
          have hlo := HO6.out.lt
          clear hk6
          dsimp only at HK6
          unfold varAgg
          dsimp only
          go_wp2_with ((at_builtin; refine wpList_append_own _ rfl _ _ 23 rfl w.heap.size 73 i0 (.agg #[.string ⟨#[]⟩, .int .i64 0, .int .i64 0, .string ⟨#[]⟩]) 4 48 Try.underlying23 hi hz0 hz1 hz2 rfl (by decide) _ _ _ rfl (HO6.out.alloc _) ⟨w6.heap.size, 0, none⟩ 1 1 (varCells v2) rfl rfl ?c1 ?c2 ?c3 ?c4 ?c5 ?_))
          case c1 => exact Go.Proofs.Ytilkilffkjhhbaa.cells_new _ _ _ _ rfl
          case c2 => exact var_one _
          case c3 => unfold maxLen; omega
          case c4 => omega
          case c5 => simp; omega
          intro v' w7 hown7 hgrow _
          have HO7 := Lib.hid hown7
          have HK7 : Hid (Took w bp 66 A c ts s2 w7) := took_grown (HK6.out.alloc _) hgrow HR.out hlo
          clear hown7 hgrow
          go_wp2_with fail
          refine (HTK2.out _ HK7.out.1).mono ?_
          rintro e w8 ⟨rfl, hk8⟩
          have HK8 := Lib.hid (HK7.out.trans hk8)
          have HO8 := Lib.hid (own_took HO7.out hk8 hbw)
          clear hk8
          go_wp2_with fail
          go_ret
          refine ⟨_, rfl, ?_, by rw [HLL.out.1]; exact HK8.out⟩
          rw [HLL.out.2, varsCells_snoc, List.length_append]
          exact HO8.out
end Go.Proofs.Ytilkilffkjhhbaa
namespace Go.Proofs.Ytilkilffkjhhbaa
set_option maxRecDepth 20000
set_option linter.unusedVariables false
open Go.RowKit Tr Mem

set_option linter.unusedVariables false
/-- what holds while it is carried out -/
def rHdC (wo W0 : World) (bp : Nat) (A : Option Addr) (c : Nat) (ts : List Lx.Tok) (s1 s2 : St) (gm k base : Nat) (R : Array Value) (V : Value) (xs : List Value) (ov : Vr) (sL sO sB sA : Nat) (L : Nat → Bool) (vs : Nat → Value) (w : World) : Prop :=
  KeptBut base gm bp W0 w ∧ (L 5 = true → L 1 = true ∧ L 4 = true) ∧ (L 7 = true → L 5 = true) ∧ (L 4 = true → L 3 = true) ∧
  (L 1 = true → vs sL = V) ∧ (L 3 = true → vs sO = varAgg ov) ∧
  (L 5 = false → w.ownsRow base 73 4 V k xs) ∧
  (L 4 = true → L 5 = false → ∃ g, vs sB = .slice (some ⟨g, 0, none⟩) 1 1 ∧ w.heap[g]? = some (.cells (varCells ov).toArray 73 (0, 0)) ∧ W0.heap.size ≤ g) ∧
  (L 5 = true → w.ownsRow base 73 4 (vs sA) (k + 1) (xs ++ varCells ov)) ∧
  w.heap[gm]? = some (.cells (if L 7 = true then R.setIfInBounds 3 (vs sA) else R) 26 (0, 0)) ∧
  Took wo bp 66 A c ts (if L 3 = true then s2 else s1) w
noncomputable def rhdOps : Array Oper := findOps 15 ((Try.f13).body.getD (.exit 0))
def rhdSlots : List (Nat × Nat) := [(0, 59), (2, 61), (6, 65)]
def rhdCh : List (Nat × Option Nat) := [(1, some 60), (3, some 62), (4, some 63), (5, some 64), (7, none)]
def rhdVal (gm bp : Nat) : Nat → Value
  | 0 => .pointer (some ⟨gm, 3, none⟩)
  | 2 => .pointer (some ⟨bp, 0, none⟩)
  | _ => .pointer (some ⟨gm, 3, none⟩)
set_option maxHeartbeats 4000000 in
theorem rhdRegion {Q : Exit → Act → World → Prop} (a0 : Act) (wo W0 : World) (hs : 65 < a0.tmps.size) (bp : Nat) (A : Option Addr) (c : Nat) (ts : List Lx.Tok) (s0 s1 s2 : St) (gm k base : Nat) (R : Array Value) (V : Value) (xs : List Value) (ov : Vr)
    (hR0 : RowAt wo bp 66 A c ts s0) (hRs : R.size = 5) (hR3 : R[3]? = some V) (hgm : gm < base) (hbp : bp < wo.heap.size) (hwo : wo.heap.size ≤ gm) (hbase : base ≤ W0.heap.size) (hk : k ≤ 1000000) (hrow : W0.heap[gm]? = some (.cells R 26 (0, 0))) (hown : W0.ownsRow base 73 4 V k xs)
    (hto : Took wo bp 66 A c ts s1 W0)
    (hcall : ∀ W, RowAt W bp 66 A c ts s1 → Calls Try.prog 41 #[.pointer (some ⟨bp, 0, none⟩)] W (DeclPost W bp 66 A c ts (ov, s2)))
    (e0 : a0.eval (.tmp 8) = .pointer (some ⟨bp, 0, none⟩)) (e3 : a0.eval (.tmp 9) = .pointer (some ⟨gm, 0, none⟩))
    (hQ : ∀ (vs : Nat → Value) w, (rHdC wo W0 bp A c ts s1 s2 gm k base R V xs ov 60 62 63 64) (fun _ => true) vs w → Q .normal (rhdSlots.foldl (fun x p => x.put (some p.2) ((rhdVal gm bp) p.1)) ([60, 62, 63, 64].foldl (fun x d => x.put (some d) (vs d)) a0)) w) :
    wpAny Try.prog .any rhdOps Q 8 (Array.replicate 8 false) a0 W0.drew := by
  have ok : slotsFix rhdSlots a0.tmps.size = true := by
    have : ∀ z, 65 < z → slotsFix rhdSlots z = true := by
      intro z hz
      simp [slotsFix, rhdSlots]
      try omega
    exact this _ hs
  have okc : chainOk rhdSlots rhdCh a0.tmps.size = true := by
    have : ∀ z, 65 < z → chainOk rhdSlots rhdCh z = true := by
      intro z hz
      simp [chainOk, rhdSlots, rhdCh]
      try omega
    exact this _ hs
  obtain ⟨i0, hi0, hi1, hi2, hi3⟩ := info_parts infoVr
  have hsz23 : (Try.prog.info? 23).map (·.size) = some 1 := by kernel_rfl
  have hdrew : Below W0.heap.size W0 W0.drew := (Below.refl _ _).drew
  refine region_chain2 (by kernel_rfl) W0 a0 rhdSlots (rhdVal gm bp) rhdCh (rHdC wo W0 bp A c ts s1 s2 gm k base R V xs ov 60 62 63 64) ok okc 8 (by kernel_rfl) (by kernel_rfl) (by kernel_rfl)
    (fun L L' vs w h hc => by have h1 := h (1, some 60) (by decide); have h2 := h (3, some 62) (by decide); have h3 := h (4, some 63) (by decide); have h4 := h (5, some 64) (by decide); have h5 := h (7, none) (by decide); unfold rHdC at *; simp only [← h1, ← h2, ← h3, ← h4, ← h5]; exact hc)
    (fun L vs w w' hc hb => by obtain ⟨a0, a1, a2, a3, a4, a5, a6, a7, a8, a9, a10⟩ := hc; exact ⟨a0.below hb hbase, a1, a2, a3, a4, a5, fun y => Mem.own_below (a6 y) hb, fun y z => by obtain ⟨g, e, hh, hl⟩ := a7 y z; exact ⟨g, e, (hb.block _ (Array.getElem?_eq_some_iff.1 hh).1).trans hh, hl⟩, fun y => Mem.own_below (a8 y) hb, (hb.block _ (Array.getElem?_eq_some_iff.1 a9).1).trans a9, a10.below hb⟩)
    (by refine ⟨⟨Nat.le_refl _, fun _ _ _ _ => rfl⟩, fun h => (by cases h), fun h => (by cases h), fun h => (by cases h), fun h => (by cases h), fun h => (by cases h), fun _ => hown, fun h => (by cases h), fun h => (by cases h), hrow, hto.below hdrew⟩) ?_ (fun vs w hc => hQ vs w hc)
  intro a1 i L a w hev h hc hi hf hneed
  replace e0 := (hev 8 rfl).trans e0
  replace e3 := (hev 9 rfl).trans e3
  obtain ⟨b0, b1, b2, b3, b4, b5, b6, b7, b8, b9, b10⟩ := hc
  simp only [] at b1 b2 b3 b4 b5 b6 b7 b8 b9 b10
  rcases (show i = 0 ∨ i = 1 ∨ i = 2 ∨ i = 3 ∨ i = 4 ∨ i = 5 ∨ i = 6 ∨ i = 7 by omega) with rfl | rfl | rfl | rfl | rfl | rfl | rfl | rfl
  · refine .inl ?_
    exact fix_value (i := 0) (d := 59) rfl (wanted_none rfl) rfl (by decide) (x_field rfl ((h.old rfl).trans e3) (by simp [go_sem]))
  · refine .inr ?_
    have f5 : L.getD 5 false = false := by
      cases hq : L.getD 5 false with
      | false => rfl
      | true => exact absurd ((b1 hq).1) (by simp [hf])
    have f7 : L.getD 7 false = false := by
      cases hq : L.getD 7 false with
      | false => rfl
      | true => exact absurd (b2 hq) (by simp [f5])
    have hb0 := b9
    rw [if_neg (by rw [f7]; decide)] at hb0
    have hh0 : w.cell? ⟨gm, 3, none⟩ = some V := by rw [cell_of_row w gm 3 _ _ (0, 0) hb0]; exact hR3
    refine ⟨some 60, by decide, ch_value (i := 1) (v := V) (w' := w) rfl (wanted_none rfl) (x_load rfl (h.get 0 59 (by decide) (hneed 0 (by kernel_rfl))) (by first | (simp [go_sem, hh0]; done) | (simp [go_sem, hh0]; rfl))) ⟨V, rfl, b0, fun y => ?_, fun y => ?_, fun y => ?_, fun _ => ?_, fun y => ?_, fun y => ?_, fun y z => ?_, fun y => ?_, ?_, ?_⟩⟩
    · simp only [Nat.reduceEqDiff, if_false] at y; rw [f5] at y; cases y
    · simp only [Nat.reduceEqDiff, if_false] at y; rw [f7] at y; cases y
    · simp only [Nat.reduceEqDiff, if_false] at y ⊢; exact b3 y
    · rfl
    · simp only [Nat.reduceEqDiff, if_false, Option.some.injEq] at y ⊢; exact b5 y
    · exact b6 f5
    · simp only [Nat.reduceEqDiff, if_false, Option.some.injEq] at y ⊢; exact b7 y f5
    · simp only [Nat.reduceEqDiff, if_false] at y; rw [f5] at y; cases y
    · simp only [Nat.reduceEqDiff, if_false, Option.some.injEq]; rw [f7]; exact hb0
    · simp only [Nat.reduceEqDiff, if_false]; exact b10
  · refine .inl ?_
    exact fix_value (i := 2) (d := 61) rfl (wanted_none rfl) rfl (by decide) (x_move rfl ((h.old rfl).trans e0))
  · refine .inr ?_
    have f4 : L.getD 4 false = false := by
      cases hq : L.getD 4 false with
      | false => rfl
      | true => exact absurd (b3 hq) (by simp [hf])
    have f5 : L.getD 5 false = false := by
      cases hq : L.getD 5 false with
      | false => rfl
      | true => exact absurd ((b1 hq).2) (by simp [f4])
    have f7 : L.getD 7 false = false := by
      cases hq : L.getD 7 false with
      | false => rfl
      | true => exact absurd (b2 hq) (by simp [f5])
    have hb0 := b9
    rw [if_neg (by rw [f7]; decide)] at hb0
    rw [if_neg (by rw [hf]; decide)] at b10
    refine ⟨some 62, by decide, ch_call (i := 3) 41 Try.f41 #[.tmp 61] _ #[.pointer (some ⟨bp, 0, none⟩)] rfl (wanted_none rfl) rfl (by simp [(h.get 2 61 (by decide) (hneed 2 (by kernel_rfl))), rhdVal]) Try.func41 (by kernel_rfl) (by kernel_rfl) ?_⟩
    refine (hcall w b10.1).mono ?_
    rintro e w' ⟨rfl, hk⟩
    refine ⟨_, rfl, _, rfl, ⟨Nat.le_trans b0.size hk.2.size, fun b h1 h2 h3 => (hk.2.block b (by have := b0.size; omega) (fun e => h3 (by injection e))).trans (b0.block b h1 h2 h3)⟩, fun y => ?_, fun y => ?_, fun y => ?_, fun y => ?_, fun y => ?_, fun y => ?_, fun y z => ?_, fun y => ?_, ?_, ?_⟩
    · simp only [Nat.reduceEqDiff, if_false] at y; rw [f5] at y; cases y
    · simp only [Nat.reduceEqDiff, if_false] at y; rw [f7] at y; cases y
    · simp only [if_true]
    · simp only [Nat.reduceEqDiff, if_false, Option.some.injEq] at y ⊢; exact b4 y
    · simp only [if_true]
    · exact own_took (b6 f5) hk (by omega)
    · simp only [Nat.reduceEqDiff, if_false] at y; rw [f4] at y; cases y
    · simp only [Nat.reduceEqDiff, if_false] at y; rw [f5] at y; cases y
    · simp only [Nat.reduceEqDiff, if_false, Option.some.injEq]; rw [f7]; exact hk.row hb0 (by omega)
    · simp only [if_true]; exact b10.trans hk
  · refine .inr ?_
    have f5 : L.getD 5 false = false := by
      cases hq : L.getD 5 false with
      | false => rfl
      | true => exact absurd ((b1 hq).2) (by simp [hf])
    have f7 : L.getD 7 false = false := by
      cases hq : L.getD 7 false with
      | false => rfl
      | true => exact absurd (b2 hq) (by simp [f5])
    have hb0 := b9
    rw [if_neg (by rw [f7]; decide)] at hb0
    have n3 := hneed 3 (by kernel_rfl)
    have hba : Below w.heap.size w (w.alloc (.cells (varCells ov).toArray 73)) := (Below.refl _ _).alloc (Nat.le_refl _) _
    refine ⟨some 63, by decide, ch_oper (i := 4) rfl (wanted_none rfl) ?_⟩
    refine wp_buildSlice 23 73 1 #[(0, .tmp 62)] rfl (varCells ov).toArray i0 (.agg #[.string ⟨#[]⟩, .int .i64 0, .int .i64 0, .string ⟨#[]⟩]) Try.underlying23 hi0 hi1 (by rw [hi2]; decide) (by rw [hi2]; decide) (by rw [hi2]; simp only [List.map_toArray, List.map_cons, List.map_nil]; rw [show a.eval (.tmp 62) = varAgg ov from (h.old rfl).trans (b5 n3)]; exact fill_var ov) ?_
    refine ⟨_, rfl, b0.below hba hbase, fun y => ?_, fun y => ?_, fun y => ?_, fun y => ?_, fun y => ?_, fun y => ?_, fun y z => ?_, fun y => ?_, ?_, ?_⟩
    · simp only [Nat.reduceEqDiff, if_false] at y; rw [f5] at y; cases y
    · simp only [Nat.reduceEqDiff, if_false] at y; rw [f7] at y; cases y
    · simp only [Nat.reduceEqDiff, if_false]; exact n3
    · simp only [Nat.reduceEqDiff, if_false, Option.some.injEq] at y ⊢; exact b4 y
    · simp only [Nat.reduceEqDiff, if_false, Option.some.injEq] at y ⊢; exact b5 y
    · exact Mem.own_below (b6 f5) hba
    · simp only [if_true]; exact ⟨w.heap.size, rfl, heap_alloc_new _ _, b0.size⟩
    · simp only [Nat.reduceEqDiff, if_false] at y; rw [f5] at y; cases y
    · simp only [Nat.reduceEqDiff, if_false, Option.some.injEq]; rw [f7]; exact (hba.block _ (Array.getElem?_eq_some_iff.1 hb0).1).trans hb0
    · simp only [Nat.reduceEqDiff, if_false]; exact b10.below hba
  · refine .inr ?_
    have f7 : L.getD 7 false = false := by
      cases hq : L.getD 7 false with
      | false => rfl
      | true => exact absurd (b2 hq) (by simp [hf])
    have hb0 := b9
    rw [if_neg (by rw [f7]; decide)] at hb0
    have n1 := hneed 1 (by kernel_rfl)
    have n2 := hneed 4 (by kernel_rfl)
    obtain ⟨g, eg, hg, hlg⟩ := b7 n2 hf
    refine ⟨some 64, by decide, ch_oper (i := 5) rfl (wanted_none rfl) ?_⟩
    refine wp_app_any (.tmp 60) (.tmp 63) 23 rfl base 73 i0 (.agg #[.string ⟨#[]⟩, .int .i64 0, .int .i64 0, .string ⟨#[]⟩]) 4 48 Try.underlying23 hi0 hi1 hi2 hi3 rfl (by decide) V k xs ((h.old rfl).trans (b4 n1)) (b6 hf) (some ⟨g, 0, none⟩) 1 1 (varCells ov) ((h.old rfl).trans eg) ⟨rfl, fun e => (by cases e), fun ad e j u hu => by injection e with e; subst e; rw [Mem.add_at, cell_of_row w g j _ _ (0, 0) hg]; simpa using hu⟩ (var_one _) (by unfold maxLen; omega) (by omega) (by have := b0.size; omega) ?_
    intro v' w' hown' hgr
    have hlt := (b6 hf).lt
    refine ⟨_, rfl, ⟨Nat.le_trans b0.size hgr.size, fun b h1 h2 h3 => (hgr.block b (by have := b0.size; omega) (fun e => by have := (hlt b e.symm).1; omega)).trans (b0.block b h1 h2 h3)⟩, fun y => ?_, fun y => ?_, fun y => ?_, fun y => ?_, fun y => ?_, fun y => ?_, fun y z => ?_, fun y => ?_, ?_, ?_⟩
    · simp only [Nat.reduceEqDiff, if_false]; exact ⟨n1, n2⟩
    · simp only [if_true]
    · simp only [Nat.reduceEqDiff, if_false] at y ⊢; exact b3 y
    · simp only [Nat.reduceEqDiff, if_false, Option.some.injEq] at y ⊢; exact b4 y
    · simp only [Nat.reduceEqDiff, if_false, Option.some.injEq] at y ⊢; exact b5 y
    · simp only [if_true] at y; cases y
    · simp only [if_true] at z; cases z
    · simp only [if_true]; exact hown'
    · simp only [Nat.reduceEqDiff, if_false, if_true]; rw [f7]; exact (hgr.block gm (Array.getElem?_eq_some_iff.1 hb0).1 (fun e => by have := (hlt gm e.symm).1; omega)).trans hb0
    · simp only [Nat.reduceEqDiff, if_false]; exact took_grown b10 hgr hR0 (fun k hk => ⟨by have := (hlt k hk).1; omega, (hlt k hk).2⟩)
  · refine .inl ?_
    exact fix_value (i := 6) (d := 65) rfl (wanted_none rfl) rfl (by decide) (x_field rfl ((h.old rfl).trans e3) (by simp [go_sem]))
  · refine .inr ?_
    have n5 := hneed 5 (by kernel_rfl)
    have hb0 := b9
    rw [if_neg (by rw [hf]; decide)] at hb0
    have ho := b8 n5
    obtain ⟨A9, c9, e9⟩ := own_slice ho
    have hne : (a1.eval (.tmp 64)).ownBlock ≠ some gm := fun e => by have := (ho.lt gm e).1; omega
    refine ⟨none, by decide, ch_oper (i := 7) rfl (wanted_none rfl) ?_⟩
    refine wp_store_slice _ _ _ rfl gm 3 A9 (k + 1) c9 (h.get 6 65 (by decide) (hneed 6 (by kernel_rfl))) ((h.old rfl).trans e9) hb0 (by rw [hRs]; decide) hsz23 ?_
    rw [← e9]
    have hgs := grown_setCell w gm 3 (a1.eval (.tmp 64))
    refine ⟨undef, rfl, ⟨by simpa using b0.size, fun b h1 h2 h3 => (heap_setCell_other _ _ _ _ (by simpa using h2)).trans (b0.block b h1 h2 h3)⟩, fun y => ?_, fun y => ?_, fun y => ?_, fun y => ?_, fun y => ?_, fun y => ?_, fun y z => ?_, fun y => ?_, ?_, ?_⟩
    · exact b1 n5
    · exact n5
    · simp only [Nat.reduceEqDiff, if_false] at y ⊢; exact b3 y
    · simp only [Nat.reduceEqDiff, if_false] at y ⊢; exact b4 y
    · simp only [Nat.reduceEqDiff, if_false] at y ⊢; exact b5 y
    · simp only [Nat.reduceEqDiff, if_false] at y; rw [n5] at y; cases y
    · simp only [Nat.reduceEqDiff, if_false] at z; rw [n5] at z; cases z
    · simp only []; exact ho.kept hgs (.inr hne)
    · simp only [if_true]; exact heap_setCell_same _ gm 3 _ _ _ hb0
    · simp only [Nat.reduceEqDiff, if_false]; exact b10.ours hgs hR0 hwo
end Go.Proofs.Ytilkilffkjhhbaa
namespace Go.Proofs.Ytilkilffkjhhbaa
set_option maxRecDepth 20000
set_option linter.unusedVariables false
open Go.RowKit Tr Mem

/-! plain: the reference's head -/
theorem declsP_bad {ts : List Lx.Tok} {s : St} (h : s.bad = true) : (declsP ts s).2.bad = true := by
  unfold declsP
  rw [need_badeq h, sees_bad h, if_neg (by decide), declsL_badeq h]
  exact h
theorem declsP_good {ts : List Lx.Tok} {s : St} (h : (declsP ts s).2.bad = false) : s.bad = false := by
  rcases hq : s.bad with _ | _
  · rfl
  · rw [declsP_bad hq] at h; cases h
theorem localsP_good {ts : List Lx.Tok} {s : St} (h : (localsP ts s).2.bad = false) : s.bad = false := by
  unfold localsP at h
  split at h
  · rename_i hs
    exact (sees_lt hs).1
  · exact h
theorem rListOf_good {r : List Vr × St} (h : r.2.bad = false) : rListOf r = r.1 := by unfold rListOf; rw [h]; rfl
/-- the head as the reference has it, ahead of let -/
def rHd (ts : List Lx.Tok) (nm : Lx.Bs) (i o l : List Vr × St) : Pg := ⟨nm, rListOf i, rListOf o, l.1, []⟩
theorem rHd_fin (ts : List Lx.Tok) (N : Int) :
    finT ts N (headP ts ⟨0, false⟩).1 [] (eqsL ts N (headP ts ⟨0, false⟩).2) =
      finT ts N (rHd ts (Tr.name ts (Tr.need ts ⟨0, false⟩ wNode)).1 (declsP ts (Tr.name ts (Tr.need ts ⟨0, false⟩ wNode)).2) (declsP ts (Tr.need ts (declsP ts (Tr.name ts (Tr.need ts ⟨0, false⟩ wNode)).2).2 wReturns))
        (localsP ts (Tr.need ts (declsP ts (Tr.need ts (declsP ts (Tr.name ts (Tr.need ts ⟨0, false⟩ wNode)).2).2 wReturns)).2 [59]))) []
        (eqsL ts N (Tr.need ts (localsP ts (Tr.need ts (declsP ts (Tr.need ts (declsP ts (Tr.name ts (Tr.need ts ⟨0, false⟩ wNode)).2).2 wReturns)).2 [59])).2 wLet)) := by
  unfold headP rHd
  dsimp only
  generalize Tr.name ts (Tr.need ts ⟨0, false⟩ wNode) = n
  generalize hi : declsP ts n.2 = i
  generalize ho : declsP ts (Tr.need ts i.2 wReturns) = o
  generalize hl : localsP ts (Tr.need ts o.2 [59]) = l
  generalize hs : Tr.need ts l.2 wLet = s
  rcases hb : s.bad with _ | _
  · have h1 : l.2.bad = false := (need_ok (by rw [hs]; exact hb)).1
    have h2 : (Tr.need ts o.2 [59]).bad = false := localsP_good (by rw [hl]; exact h1)
    have h3 : o.2.bad = false := (need_ok h2).1
    have h4 : (Tr.need ts i.2 wReturns).bad = false := declsP_good (by rw [ho]; exact h3)
    have h5 : i.2.bad = false := (need_ok h4).1
    rw [rListOf_good h5, rListOf_good h3]
  · rw [finT_bad hb, finT_bad hb]
/-! memory -/
theorem own_keep {w w' : World} {base size n : Nat} {e : TypeId} {v : Value} {xs : List Value} (h : w.ownsRow base e size v n xs) (hk : ∀ b, base ≤ b → v.ownBlock = some b → b < w.heap.size → w'.heap[b]? = w.heap[b]?) : w'.ownsRow base e size v n xs := own_by' h hk
/-- ahead of the equations -/
structure PH (wo W : World) (bp ob : Nat) (A : Option Addr) (c : Nat) (ts : List Lx.Tok) (s : St) (p : Pg) (L : Lie) : Prop where
  took : Took wo bp 66 A c ts s W
  lo : bp < wo.heap.size ∧ wo.heap.size ≤ ob ∧ ob < W.heap.size
  prow : W.heap[ob]? = some (.cells (pgRow p L) 26 (0, 0))
  ins : W.ownsRow (ob + 1) 73 4 (.slice L.ai p.ins.length L.ci) p.ins.length (varsCells p.ins)
  outs : W.ownsRow (ob + 1) 73 4 (.slice L.ao p.outs.length L.co) p.outs.length (varsCells p.outs)
  locals : W.ownsRow (ob + 1) 73 4 (.slice L.al p.locals.length L.cl) p.locals.length (varsCells p.locals)
  noeq : p.eqs = [] ∧ L.ae = none ∧ L.ce = 0
section
variable {wo W W' : World} {bp ob lb eb : Nat} {A : Option Addr} {c : Nat} {ts : List Lx.Tok} {s s' s0 : St} {p : Pg} {L : Lie} {xs : List Value}
theorem PH.step (h : PH wo W bp ob A c ts s p L) (hk : Took W bp 66 A c ts s' W') : PH wo W' bp ob A c ts s' p L := by
  have hl := h.lo
  have hs := hk.2.size
  exact ⟨h.took.trans hk, ⟨hl.1, hl.2.1, by omega⟩, hk.row h.prow (by omega), own_took h.ins hk (by omega), own_took h.outs hk (by omega), own_took h.locals hk (by omega), h.noeq⟩
theorem PH.by (h : PH wo W bp ob A c ts s p L) (hb : Below W.heap.size W W') : PH wo W' bp ob A c ts s p L := h.step ⟨h.took.1.below hb (Nat.le_refl _), grown_of_below hb _⟩
/-- a list is stored -/
theorem PH.ins' (h : PH wo W bp ob A c ts s p L) (h0 : RowAt wo bp 66 A c ts s0) {l : List Vr} {A' : Option Addr} {c' : Nat} (ho : W.ownsRow (ob + 1) 73 4 (.slice A' l.length c') l.length (varsCells l)) :
    PH wo (W.setCell ⟨ob, 1, none⟩ (.slice A' l.length c')) bp ob A c ts s { p with ins := l } { L with ai := A', ci := c' } := by
  have hl := h.lo
  have hg := grown_setCell W ob 1 (.slice A' l.length c')
  have k : ∀ b, ob + 1 ≤ b → b < W.heap.size → (W.setCell ⟨ob, 1, none⟩ (.slice A' l.length c')).heap[b]? = W.heap[b]? := fun b hb _ => heap_setCell_other _ _ _ _ (by simp only; omega)
  refine ⟨h.took.ours hg h0 hl.2.1, ⟨hl.1, hl.2.1, by simpa using hl.2.2⟩, ?_, own_keep ho (fun b hb _ hlt => k b hb hlt), own_keep h.outs (fun b hb _ hlt => k b hb hlt), own_keep h.locals (fun b hb _ hlt => k b hb hlt), h.noeq⟩
  rw [heap_setCell_same _ ob 1 _ _ _ h.prow]; rfl
theorem PH.outs' (h : PH wo W bp ob A c ts s p L) (h0 : RowAt wo bp 66 A c ts s0) {l : List Vr} {A' : Option Addr} {c' : Nat} (ho : W.ownsRow (ob + 1) 73 4 (.slice A' l.length c') l.length (varsCells l)) :
    PH wo (W.setCell ⟨ob, 2, none⟩ (.slice A' l.length c')) bp ob A c ts s { p with outs := l } { L with ao := A', co := c' } := by
  have hl := h.lo
  have hg := grown_setCell W ob 2 (.slice A' l.length c')
  have k : ∀ b, ob + 1 ≤ b → b < W.heap.size → (W.setCell ⟨ob, 2, none⟩ (.slice A' l.length c')).heap[b]? = W.heap[b]? := fun b hb _ => heap_setCell_other _ _ _ _ (by simp only; omega)
  refine ⟨h.took.ours hg h0 hl.2.1, ⟨hl.1, hl.2.1, by simpa using hl.2.2⟩, ?_, own_keep h.ins (fun b hb _ hlt => k b hb hlt), own_keep ho (fun b hb _ hlt => k b hb hlt), own_keep h.locals (fun b hb _ hlt => k b hb hlt), h.noeq⟩
  rw [heap_setCell_same _ ob 2 _ _ _ h.prow]; rfl
/-- in the loop over own variables: their list lies behind all the others -/
structure PL (wo W : World) (bp ob lb : Nat) (A : Option Addr) (c : Nat) (ts : List Lx.Tok) (s : St) (p : Pg) (L : Lie) : Prop where
  ph : PH wo W bp ob A c ts s p L
  lbs : ob < lb ∧ lb ≤ W.heap.size
  io : (∀ k, (Value.slice L.ai p.ins.length L.ci).ownBlock = some k → k < lb) ∧ (∀ k, (Value.slice L.ao p.outs.length L.co).ownBlock = some k → k < lb)
  loc : W.ownsRow lb 73 4 (.slice L.al p.locals.length L.cl) p.locals.length (varsCells p.locals)
theorem PH.loop (h : PH wo W bp ob A c ts s p L) (hn : p.locals = [] ∧ L.al = Option.none ∧ L.cl = 0) : PL wo W bp ob W.heap.size A c ts s p L := by
  refine ⟨h, ⟨h.lo.2.2, Nat.le_refl _⟩, ⟨fun k e => (h.ins.lt k e).2, fun k e => (h.outs.lt k e).2⟩, ?_⟩
  rw [hn.1, hn.2.1, hn.2.2]
  exact World.ownsRow_nil _ _ _ _
theorem PL.step (h : PL wo W bp ob lb A c ts s p L) (hk : Took W bp 66 A c ts s' W') : PL wo W' bp ob lb A c ts s' p L := by
  have hl := h.ph.lo
  have hs := hk.2.size
  have hb := h.lbs
  exact ⟨h.ph.step hk, ⟨hb.1, by omega⟩, h.io, own_took h.loc hk (by omega)⟩
theorem PL.by (h : PL wo W bp ob lb A c ts s p L) (hb : Below W.heap.size W W') : PL wo W' bp ob lb A c ts s p L := h.step ⟨h.ph.took.1.below hb (Nat.le_refl _), grown_of_below hb _⟩
/-- an own variable is appended -/
theorem PL.app (h : PL wo W bp ob lb A c ts s p L) {v : Vr} {A' : Option Addr} {c' : Nat} (hk : KeptBut lb ob bp W W') (ho : W'.ownsRow lb 73 4 (.slice A' (p.locals.length + 1) c') (p.locals.length + 1) (varsCells p.locals ++ varCells v))
    (hr : W'.heap[ob]? = some (.cells ((pgRow p L).setIfInBounds 3 (.slice A' (p.locals.length + 1) c')) 26 (0, 0))) (ht : Took wo bp 66 A c ts s' W') :
    PL wo W' bp ob lb A c ts s' { p with locals := p.locals ++ [v] } { L with al := A', cl := c' } := by
  have hl := h.ph.lo
  have hb := h.lbs
  have hsz := hk.size
  have hlen : (p.locals ++ [v]).length = p.locals.length + 1 := by simp
  have hown : W'.ownsRow lb 73 4 (.slice A' (p.locals ++ [v]).length c') (p.locals ++ [v]).length (varsCells (p.locals ++ [v])) := by rw [hlen, varsCells_snoc]; exact ho
  refine ⟨⟨ht, ⟨hl.1, hl.2.1, by omega⟩, ?_, own_but h.ph.ins hk (fun k e => ⟨h.io.1 k e, by have := (h.ph.ins.lt k e).1; omega, by have := (h.ph.ins.lt k e).1; omega⟩), own_but h.ph.outs hk (fun k e => ⟨h.io.2 k e, by have := (h.ph.outs.lt k e).1; omega, by have := (h.ph.outs.lt k e).1; omega⟩), own_base hown (by omega), h.ph.noeq⟩, ⟨hb.1, by omega⟩, h.io, hown⟩
  rw [hr]
  unfold pgRow
  dsimp only
  rw [hlen]
  rfl
/-- in the loop over equations -/
structure PR (wo W : World) (bp ob eb : Nat) (A : Option Addr) (c : Nat) (ts : List Lx.Tok) (s : St) (p : Pg) (L : Lie) (xs : List Value) : Prop where
  took : Took wo bp 66 A c ts s W
  lo : bp < wo.heap.size ∧ wo.heap.size ≤ ob ∧ ob < eb ∧ eb ≤ W.heap.size
  prow : W.heap[ob]? = some (.cells (pgRow p L) 26 (0, 0))
  ins : W.ownsRow (ob + 1) 73 4 (.slice L.ai p.ins.length L.ci) p.ins.length (varsCells p.ins)
  outs : W.ownsRow (ob + 1) 73 4 (.slice L.ao p.outs.length L.co) p.outs.length (varsCells p.outs)
  locals : W.ownsRow (ob + 1) 73 4 (.slice L.al p.locals.length L.cl) p.locals.length (varsCells p.locals)
  old : (∀ k, (Value.slice L.ai p.ins.length L.ci).ownBlock = some k → k < eb) ∧ (∀ k, (Value.slice L.ao p.outs.length L.co).ownBlock = some k → k < eb) ∧ (∀ k, (Value.slice L.al p.locals.length L.cl).ownBlock = some k → k < eb)
  eqs : W.ownsRow eb 56 10 (eqSl L p) p.eqs.length xs
  inn : EqsIn W (ownK ob (eqSl L p)) p.eqs xs
theorem PH.eqs (h : PH wo W bp ob A c ts s p L) : PR wo W bp ob W.heap.size A c ts s p L [] := by
  have hl := h.lo
  refine ⟨h.took, ⟨hl.1, hl.2.1, hl.2.2, Nat.le_refl _⟩, h.prow, h.ins, h.outs, h.locals, ⟨fun k e => (h.ins.lt k e).2, fun k e => (h.outs.lt k e).2, fun k e => (h.locals.lt k e).2⟩, ?_, ?_⟩
  · unfold eqSl
    rw [h.noeq.1, h.noeq.2.1, h.noeq.2.2]
    exact World.ownsRow_nil _ _ _ _
  · rw [h.noeq.1]; rfl
theorem PR.step (h : PR wo W bp ob eb A c ts s p L xs) (hk : Took W bp 66 A c ts s' W') : PR wo W' bp ob eb A c ts s' p L xs := by
  have hl := h.lo
  have hs := hk.2.size
  have kp : ∀ b, b ≠ bp → b < W.heap.size → W'.heap[b]? = W.heap[b]? := fun b hb hlt => hk.2.block b hlt (fun e => hb (by injection e))
  exact ⟨h.took.trans hk, ⟨hl.1, hl.2.1, hl.2.2.1, by omega⟩, hk.row h.prow (by omega), own_took h.ins hk (by omega), own_took h.outs hk (by omega), own_took h.locals hk (by omega), h.old, own_took h.eqs hk (by omega), h.inn.same (fun b hb hlt => kp b (by have := hb.1; omega) hlt)⟩
theorem PR.by (h : PR wo W bp ob eb A c ts s p L xs) (hb : Below W.heap.size W W') : PR wo W' bp ob eb A c ts s p L xs := h.step ⟨h.took.1.below hb (Nat.le_refl _), grown_of_below hb _⟩
/-- an equation is appended -/
theorem PR.app (h : PR wo W bp ob eb A c ts s p L xs) (h0 : RowAt wo bp 66 A c ts s0) {q : Eqn} {AF AE : Option Addr} {cF cE : Nat}
    (h1 : At W (ownK ob (eqSl L p)) q.first AF) (h2 : At W (ownK ob (eqSl L p)) q.e AE) {A' : Option Addr} {c' : Nat}
    (ho : W'.ownsRow eb 56 10 (.slice A' (p.eqs.length + 1) c') (p.eqs.length + 1) (xs ++ eqCells q AF cF AE cE)) (hg : W.grownBy W' (eqSl L p).ownBlock)
    (hv : (Value.slice A' (p.eqs.length + 1) c').ownBlock = (eqSl L p).ownBlock ∨ (Value.slice A' (p.eqs.length + 1) c').ownBlock = some W.heap.size) :
    PR wo (W'.setCell ⟨ob, 4, none⟩ (.slice A' (p.eqs.length + 1) c')) bp ob eb A c ts s { p with eqs := p.eqs ++ [q] } { L with ae := A', ce := c' } (xs ++ eqCells q AF cF AE cE) := by
  have hl := h.lo
  have hs := hg.size
  have heq : ∀ k, (eqSl L p).ownBlock = some k → eb ≤ k ∧ k < W.heap.size := fun k hk => h.eqs.lt k hk
  have kp : ∀ b, b < eb → b < W.heap.size → W'.heap[b]? = W.heap[b]? := fun b hb hlt => hg.block b hlt (fun e => by have := (heq b e.symm).1; omega)
  have kp' : ∀ b, ob < b → (W'.setCell ⟨ob, 4, none⟩ (.slice A' (p.eqs.length + 1) c')).heap[b]? = W'.heap[b]? := fun b hb => heap_setCell_other _ _ _ _ (by simp only; omega)
  have hlen : (p.eqs ++ [q]).length = p.eqs.length + 1 := by simp
  have inn' : EqsIn W' (ownK ob (.slice A' (p.eqs.length + 1) c')) (p.eqs ++ [q]) (xs ++ eqCells q AF cF AE cE) := by
    have sm : ∀ b, ownK ob (eqSl L p) b → b < W.heap.size → W'.heap[b]? = W.heap[b]? := fun b hb hlt => hg.block b hlt (fun e => hb.2 b e.symm rfl)
    have bs : ∀ b, ownK ob (eqSl L p) b → b < W.heap.size → ownK ob (.slice A' (p.eqs.length + 1) c') b := fun b hb hlt => ⟨hb.1, fun k hk => by
      rcases hv with e | e
      · rw [e] at hk; exact hb.2 k hk
      · rw [e] at hk; injection hk with hk; omega⟩
    have mv : ∀ {x : Ex} {B : Option Addr}, At W (ownK ob (eqSl L p)) x B → At W' (ownK ob (.slice A' (p.eqs.length + 1) c')) x B := fun hx =>
      ((hx.base (B' := fun b => ownK ob (eqSl L p) b ∧ b < W.heap.size) (fun b hb hlt => ⟨hb, hlt⟩)).same (fun b hb hlt => sm b hb.1 hlt)).base (fun b hb _ => bs b hb.1 hb.2)
    exact EqsIn.snoc (mv h1) (mv h2) (((h.inn.base (K' := fun b => ownK ob (eqSl L p) b ∧ b < W.heap.size) (fun b hb hlt => ⟨hb, hlt⟩)).same (fun b hb hlt => sm b hb.1 hlt)).base (fun b hb _ => bs b hb.1 hb.2))
  have hsz : (W'.setCell ⟨ob, 4, none⟩ (.slice A' (p.eqs.length + 1) c')).heap.size = W'.heap.size := by simp
  have hpr : W'.heap[ob]? = some (.cells (pgRow p L) 26 (0, 0)) := (kp ob hl.2.2.1 (by omega)).trans h.prow
  have lowk : ∀ b, ob + 1 ≤ b → b < eb → b < W.heap.size → (W'.setCell ⟨ob, 4, none⟩ (.slice A' (p.eqs.length + 1) c')).heap[b]? = W.heap[b]? := fun b h1 hb hlt => (kp' b (by omega)).trans (kp b hb hlt)
  have htk : Took wo bp 66 A c ts s W' := took_grown (n := W.heap.size) h.took hg h0 (fun k hk => ⟨by have := (heq k hk).1; omega, (heq k hk).2⟩)
  refine ⟨htk.ours (grown_setCell _ _ _ _) h0 hl.2.1, ⟨hl.1, hl.2.1, hl.2.2.1, by rw [hsz]; omega⟩, ?_, own_by' h.ins (fun b h1 hv hlt => lowk b h1 (h.old.1 b hv) hlt), own_by' h.outs (fun b h1 hv hlt => lowk b h1 (h.old.2.1 b hv) hlt), own_by' h.locals (fun b h1 hv hlt => lowk b h1 (h.old.2.2 b hv) hlt), h.old, ?_, ?_⟩
  · rw [heap_setCell_same _ ob 4 _ _ _ hpr]
    unfold pgRow
    dsimp only
    rw [hlen]
    rfl
  · unfold eqSl
    dsimp only
    rw [hlen]
    exact own_by' ho (fun b hb _ _ => kp' b (by omega))
  · have e : eqSl { L with ae := A', ce := c' } { p with eqs := p.eqs ++ [q] } = .slice A' (p.eqs.length + 1) c' := by unfold eqSl; dsimp only; rw [hlen]
    rw [e]
    exact inn'.same (fun b hb _ => kp' b hb.1)
theorem PR.fin {w : World} (h : PR wo W bp ob eb A c ts s p L xs) (hw : w.heap.size < ob) (hb : Below w.heap.size w W) (cs : Array Value) : ParsePost w (p, 0, 0) (.returned (.tuple #[pgAgg p L, .int .i64 0, .int .i64 0])) (W.setRow w.heap.size cs) := by
  have hl := h.lo
  have k : ∀ b, w.heap.size < b → b < W.heap.size → (W.setRow w.heap.size cs).heap[b]? = W.heap[b]? := fun b hb _ => setRow_other _ _ _ _ (by omega)
  refine ⟨L, rfl, ⟨VarsAt.of_own (own_by' h.ins (fun b hb _ hlt => k b (by omega) hlt)), VarsAt.of_own (own_by' h.outs (fun b hb _ hlt => k b (by omega) hlt)), VarsAt.of_own (own_by' h.locals (fun b hb _ hlt => k b (by omega) hlt)), ?_⟩, below_setRow_ hb (Nat.le_refl _)⟩
  exact EqsAt.of_own (own_by' h.eqs (fun b hb _ hlt => k b (by omega) hlt)) ((h.inn.same (fun b hb hlt => k b (by have := hb.1; omega) hlt)).base (fun b hb _ => by have := hb.1; omega))
end
end Go.Proofs.Ytilkilffkjhhbaa
