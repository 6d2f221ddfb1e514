/-
  The reference's equations.
  The reference's Parse.
-/
import Derived.Test.YtilkilffkjhhbaaTrZe
import Derived.Test.YtilkilffkjhhbaaTrZf
import Derived.Test.YtilkilffkjhhbaaTrZr
import Derived.Test.YtilkilffkjhhbaaTrYb
import Derived.Deep.DeepCutAuto
namespace Go.Proofs.Ytilkilffkjhhbaa
set_option maxRecDepth 20000
set_option linter.unusedVariables false
open Go.RowKit Tr Mem

theorem requation_any (bp : Nat) (A : Option Addr) (c : Nat) (ts : List Lx.Tok) (s : St) (hok : ∀ t ∈ ts, TokOk t) (hcap : ts.length ≤ c) (w : World) (h : RowAt w bp 66 A c ts s) :
    Calls Try.prog 42 #[.pointer (some ⟨bp, 0, none⟩)] w (rEqPost w bp A c ts (eqP ts s)) := by
  unfold eqP
  rcases h1 : sees ts (Tr.need ts (Tr.name ts s).2 [61]) wPre with _ | _
  · rw [if_neg (by decide)]
    rcases hb : (Tr.need ts (Tr.name ts s).2 [61]).bad with _ | _
    · rcases h45 : sees ts (Tr.need ts (Tr.name ts s).2 [61]) [45] with _ | _
      · exact req_one bp A c ts s hok hcap h1 hb h45 w h
      · exact req_two bp A c ts s hok hcap h1 hb h45 w h
    · have hn : firstP ts (Tr.need ts (Tr.name ts s).2 [61]) = none := by
        rcases hq : firstP ts (Tr.need ts (Tr.name ts s).2 [61]) with _ | ⟨x, s2⟩
        · rfl
        · have := (firstP_at hq).2
          rw [hb] at this; cases this
      rw [hn]
      exact req_bad bp A c ts s h1 hb w h
  · rw [if_pos rfl]
    exact req_pre bp A c ts s h1 w h
end Go.Proofs.Ytilkilffkjhhbaa
namespace Go.Proofs.Ytilkilffkjhhbaa
set_option maxRecDepth 20000
set_option linter.unusedVariables false
open Go.RowKit Tr Mem

/-- in the loop over own variables: what is read, and what is still to be read -/
def OwnAt (ts : List Lx.Tok) (R : List Vr × St) (fb : Bool) (done : List Vr) (s : St) : Prop := R = (done ++ (if fb then ownsL ts s else restO ts s).1, (if fb then ownsL ts s else restO ts s).2)
theorem OwnAt.next {ts : List Lx.Tok} {R : List Vr × St} {fb : Bool} {done : List Vr} {s : St} (h : OwnAt ts R fb done s) (hb : fb = false → (s.bad || sees ts s wLet) = false) : OwnAt ts R false (done ++ [(ownP ts s).1]) (ownP ts s).2 := by
  unfold OwnAt at *
  have e : (if fb = true then ownsL ts s else restO ts s) = ownsL ts s := by
    cases fb
    · rw [if_neg (by decide)]
      unfold restO
      rw [hb rfl, if_neg (by decide)]
    · rw [if_pos rfl]
  rw [e, ownsL_rest] at h
  rw [h, if_neg (by decide)]
  simp
theorem OwnAt.stop {ts : List Lx.Tok} {R : List Vr × St} {done : List Vr} {s : St} (h : OwnAt ts R false done s) (hb : (s.bad || sees ts s wLet) = true) : R = (done, s) := by
  unfold OwnAt at h
  rw [if_neg (by decide)] at h
  unfold restO at h
  rw [hb, if_pos rfl] at h
  simpa using h
theorem lie_zero (nm : Lx.Bs) : pgRow ⟨nm, [], [], [], []⟩ Lie.zero = #[.string ⟨nm.toArray⟩, .slice none 0 0, .slice none 0 0, .slice none 0 0, .slice none 0 0] := rfl
/-- the capacity of a row of the call's own that is not empty -/
theorem own_cap {w : World} {base size n c : Nat} {e : TypeId} {A : Option Addr} {xs : List Value} (h : w.ownsRow base e size (.slice A n c) n xs) (hn : n ≠ 0) : n ≤ c := by
  rcases h.2 with ⟨h2, _⟩ | ⟨b, cap, cur, e1, _, _, h3, _⟩
  · first | (injection h2 with _ h2 _; omega) | omega
  · injection e1 with _ _ e2
    omega
set_option maxRecDepth 100000 in
set_option maxHeartbeats 32000000 in
theorem refparse_any (l : Lx.Bs) (hl : l.length ≤ maxLen) (w : World) : Calls Try.prog 13 #[.string ⟨l.toArray⟩] w (ParsePost w (parse l)) := by
  have HS := Lib.hid (fun W => refscan l hl W)
  unfold ScanGives at HS
  have hlen := scan_len l
  have HFT := Lib.hid (scan_fit l)
  have HTOK := Lib.hid (scan_tok l)
  obtain ⟨r, hr⟩ : ∃ r, r = parse l := ⟨_, rfl⟩
  rw [← hr]
  unfold parse at hr
  generalize Lx.scan l = sc at *
  obtain ⟨ts, er, pl⟩ := sc
  dsimp only at hlen HFT HTOK hr
  have HW0 : Hid (∀ V, Below w.heap.size w (w.alloc V)) := fun V => (Below.refl _ _).alloc (Nat.le_refl _) V
  have hl9 : l.length ≤ 9223372036854775807 := by unfold maxLen at hl; omega
  by_cases he : er ≠ 0
  · rw [if_pos he] at hr
    subst hr
    go_enter Try.func13, Try.ntmps13
    go_wp2_with fail
    obtain ⟨W0, hW0⟩ : ∃ W0, W0 = w.alloc (.cells zpg 26) := ⟨_, rfl⟩
    unfold zpg at hW0
    rw [← hW0]
    have HB0 : Hid (Below w.heap.size w W0) := by rw [hW0]; exact HW0.out _
    have HZ0 : Hid (W0.heap[w.heap.size]? = some (.cells zpg 26 (0, 0))) := by rw [hW0]; exact heap_alloc_new _ _
    clear hW0
    refine (HS.out _).mono ?_
    rintro e w1 ⟨v, rfl, ho, hb⟩
    have HZ1 := Lib.hid ((hb.block _ (Array.getElem?_eq_some_iff.1 HZ0.out).1).trans HZ0.out)
    have HB1 := Lib.hid (HB0.out.trans (hb.mono HB0.out.size))
    clear ho hb HZ0 HB0
    dsimp only
    have hne : (er != 0) = true := by simpa using he
    go_wp2_with ((refine wpList_store_row rfl 26 (.tmp 2) (.tmp 22) rfl w.heap.size zpg rfl rfl 26 zpg HZ1.out infoPg rfl zpg_one ?_))
    exact ret_row_tmp2 2 3 4 rfl rfl rfl rfl rfl (setRow_heap _ _ _ zpg _ _ HZ1.out) Try.underlying26 infoPg ⟨Lie.zero, rfl, pgAt_zero _ _ _, below_setRow_ HB1.out (Nat.le_refl _)⟩
  · rw [if_neg he] at hr
    obtain rfl : er = 0 := by simpa using he
    clear he
    rw [parseT_fin, rHd_fin] at hr
    have HN0 := Lib.hid (fun bp A c W h => rneed_any bp A c ts ⟨0, false⟩ wNode W h)
    unfold wNode at HN0
    have hw0 : Tr.need ts ⟨0, false⟩ wNode = Tr.need ts ⟨0, false⟩ [110, 111, 100, 101] := rfl
    rw [hw0] at hr
    clear hw0
    generalize Tr.need ts ⟨0, false⟩ [110, 111, 100, 101] = s1 at *
    unfold Tr.name at hr
    have HC := Lib.hid (fun bp A c W h => rkind_any bp A c ts s1 1 W h)
    unfold tokAgg at HC
    generalize token ts s1 1 = tk at *
    obtain ⟨⟨kd, nm, nn, pk⟩, s2⟩ := tk
    dsimp only at hr HC
    have HD1 := Lib.hid (fun bp A c W h => rlist_any bp A c ts s2 W h)
    generalize declsP ts s2 = di at *
    have HN1 := Lib.hid (fun bp A c W h => rneed_any bp A c ts di.2 wReturns W h)
    unfold wReturns at HN1
    have hw1 : Tr.need ts di.2 wReturns = Tr.need ts di.2 [114, 101, 116, 117, 114, 110, 115] := rfl
    rw [hw1] at hr
    clear hw1
    generalize Tr.need ts di.2 [114, 101, 116, 117, 114, 110, 115] = s4 at *
    have HD2 := Lib.hid (fun bp A c W h => rlist_any bp A c ts s4 W h)
    generalize declsP ts s4 = do_ at *
    have HN2 := Lib.hid (fun bp A c W h => rneed_any bp A c ts do_.2 [59] W h)
    generalize Tr.need ts do_.2 [59] = s6 at *
    have HTV := Lib.hid (fun bp A c W h => rtake_any bp A c ts s6 wVar W h)
    unfold wVar at HTV
    have hlp : localsP ts s6 = if sees ts s6 [118, 97, 114] then ownsL ts s6.adv else ([], s6) := rfl
    generalize localsP ts s6 = lo at *
    obtain ⟨vb, hvb⟩ : ∃ b, b = sees ts s6 [118, 97, 114] := ⟨_, rfl⟩
    rw [← hvb] at hlp HTV
    have HVB := Lib.hid hvb
    have HLP := Lib.hid hlp
    clear hvb
    have HNL := Lib.hid (fun bp A c W h => rneed_any bp A c ts lo.2 wLet W h)
    unfold wLet at HNL
    have hw2 : Tr.need ts lo.2 wLet = Tr.need ts lo.2 [108, 101, 116] := rfl
    rw [hw2] at hr
    clear hw2 hlp
    generalize Tr.need ts lo.2 [108, 101, 116] = s8 at *
    unfold rHd at hr
    have HRR := Lib.hid hr
    clear hr
    have hfl := fun W => field_text W kd nn pk nm
    obtain ⟨pdi, sdi⟩ := di
    obtain ⟨pdo, sdo⟩ := do_
    dsimp only at HN1 HN2
    obtain ⟨di, hdi⟩ : ∃ d : List Vr × St, d = (pdi, sdi) := ⟨_, rfl⟩
    obtain ⟨do_, hdo⟩ : ∃ d : List Vr × St, d = (pdo, sdo) := ⟨_, rfl⟩
    unfold rDeclsPost at HD1 HD2
    dsimp only at HD1 HD2
    rw [← hdi] at HD1 HRR
    rw [← hdo] at HD2 HRR
    clear hdi hdo
    go_enter Try.func13, Try.ntmps13
    go_wp2_with fail
    obtain ⟨W0, hW0⟩ : ∃ W0, W0 = w.alloc (.cells zpg 26) := ⟨_, rfl⟩
    unfold zpg at hW0
    rw [← hW0]
    have HB0 : Hid (Below w.heap.size w W0) := by rw [hW0]; exact HW0.out _
    have HZ0 : Hid (W0.heap[w.heap.size]? = some (.cells zpg 26 (0, 0))) := by rw [hW0]; exact heap_alloc_new _ _
    clear hW0
    refine (HS.out _).mono ?_
    rintro e w1 ⟨v, rfl, ho, hb⟩
    obtain ⟨A, c, rfl⟩ := own_slice ho
    have hbo : ∀ b o q, A = some ⟨b, o, q⟩ → b < w1.heap.size := by
      intro b o q e
      subst e
      exact (ho.lt b rfl).2
    have HCAP : Hid (ts.length ≠ 0 → ts.length ≤ c) := fun h => own_cap ho h
    have HTK := Lib.hid (TokAt.of_own ho)
    have HZ1 := Lib.hid ((hb.block _ (Array.getElem?_eq_some_iff.1 HZ0.out).1).trans HZ0.out)
    have HB1 := Lib.hid (HB0.out.trans (hb.mono HB0.out.size))
    have HBO := Lib.hid hbo
    clear ho hb HZ0 HB0 hbo
    dsimp only
    have hzl := (Array.getElem?_eq_some_iff.1 HZ1.out).1
    go_wp2_with fail
    obtain ⟨W2, hW2⟩ : ∃ W2, W2 = w1.alloc (.cells #[.slice A ts.length c, .int .i64 0, .bool false] 66) := ⟨_, rfl⟩
    rw [← hW2]
    have hb2 : Below w1.heap.size w1 W2 := by rw [hW2]; exact (Below.refl _ _).alloc (Nat.le_refl _) _
    have HP2 : Hid (W2.heap[w1.heap.size]? = some (.cells #[.slice A ts.length c, .int .i64 0, .bool false] 66 (0, 0))) := by rw [hW2]; exact heap_alloc_new _ _
    have HR0 : Hid (RowAt W2 w1.heap.size 66 A c ts ⟨0, false⟩) := ⟨HP2.out, HTK.out.below hb2 (.inl (Nat.le_refl _)), fun b o q e => by have := HBO.out b o q e; omega, Nat.zero_le _, hlen⟩
    have HZ2 := Lib.hid ((hb2.block _ hzl).trans HZ1.out)
    have HB2 := Lib.hid (HB1.out.trans (hb2.mono HB1.out.size))
    have hbp := HR0.out.lt
    clear hW2 hb2 HP2 HZ1 HB1 HS
    generalize w1.heap.size = bp at *
    have HK0 := Lib.hid (took_refl HR0.out)
    refine (HN0.out _ _ _ _ HK0.out.1).mono ?_
    rintro e w3 ⟨rfl, hk⟩
    have HK1 := Lib.hid (HK0.out.trans hk)
    clear hk HK0
    go_wp2_with fail
    refine (HC.out _ _ _ _ HK1.out.1).mono ?_
    rintro e w4 ⟨rfl, hk⟩
    have HK2 := Lib.hid (HK1.out.trans hk)
    clear hk HK1
    go_wp2_with fail
    obtain ⟨W5, hW5⟩ : ∃ W5, W5 = w4.alloc (.cells #[.string ⟨nm.toArray⟩, .slice none 0 0, .slice none 0 0, .slice none 0 0, .slice none 0 0] 26) := ⟨_, rfl⟩
    rw [← hW5]
    have HP5 : Hid (PH W2 W5 bp w4.heap.size A c ts s2 ⟨nm, [], [], [], []⟩ Lie.zero) := by
      have hb5 : Below w4.heap.size w4 W5 := by rw [hW5]; exact (Below.refl _ _).alloc (Nat.le_refl _) _
      have hs5 : w4.heap.size < W5.heap.size := by rw [hW5]; simp
      refine ⟨HK2.out.below hb5, ⟨hbp, HK2.out.2.size, hs5⟩, ?_, World.ownsRow_nil _ _ _ _, World.ownsRow_nil _ _ _ _, World.ownsRow_nil _ _ _ _, rfl, rfl, rfl⟩
      rw [lie_zero, hW5]
      exact heap_alloc_new _ _
    have hob : w.heap.size < w4.heap.size := by have := HK2.out.2.size; have := (Array.getElem?_eq_some_iff.1 HZ2.out).1; omega
    clear hW5 HK2 hfl
    generalize w4.heap.size = ob at *
    have HEQ := Lib.hid (fun bp A c s W h1 h => requation_any bp A c ts s HTOK.out h1 W h)
    have HTE := Lib.hid (fun bp A c s W h => rtake_any bp A c ts s wTel W h)
    have HOW := Lib.hid (fun bp A c s W h => rown_any bp A c ts s W h)
    have HIS := Lib.hid (fun bp A c s W h => ris_any bp A c ts s wLet W h)
    clear HN0 HC
    -- ins
    refine (HD1.out _ _ _ _ HP5.out.took.1).mono ?_
    rintro e w6 ⟨vi, rfl, ho, hk⟩
    obtain ⟨Ai, ci, rfl⟩ := own_slice ho
    have HO6 := Lib.hid (own_base ho HP5.out.lo.2.2)
    have HP6 := Lib.hid (HP5.out.step hk)
    clear ho hk HP5 HD1
    have hp6 := HP6.out.prow
    rw [lie_zero] at hp6
    obtain ⟨⟨n1, n2, n3, n4⟩, n5, n6, n7, n8⟩ := row5 hp6
    clear hp6
    go_upto_region 8 with (fail)
    obtain ⟨W7, hW7⟩ : ∃ W, W = w6.setCell ⟨ob, 1, none⟩ (.slice Ai (rListOf di).length ci) := ⟨_, rfl⟩
    rw [← hW7]
    have HP7 : Hid (PH W2 W7 bp ob A c ts sdi ⟨nm, rListOf di, [], [], []⟩ { Lie.zero with ai := Ai, ci := ci }) := by rw [hW7]; exact HP6.out.ins' HR0.out HO6.out
    clear hW7 HP6 HO6 n1 n2 n3 n4 n5 n6 n7 n8
    go_wp2_with fail
    refine (HN1.out _ _ _ _ HP7.out.took.1).mono ?_
    rintro e w8 ⟨rfl, hk⟩
    have HP8 := Lib.hid (HP7.out.step hk)
    clear hk HP7 HN1
    go_wp2_with fail
    -- outs
    refine (HD2.out _ _ _ _ HP8.out.took.1).mono ?_
    rintro e w9 ⟨vo, rfl, ho, hk⟩
    obtain ⟨Ao, co, rfl⟩ := own_slice ho
    have HO9 := Lib.hid (own_base ho HP8.out.lo.2.2)
    have HP9 := Lib.hid (HP8.out.step hk)
    clear ho hk HP8 HD2
    have hp9 := HP9.out.prow
    unfold pgRow at hp9
    dsimp only at hp9
    obtain ⟨⟨n1, n2, n3, n4⟩, n5, n6, n7, n8⟩ := row5 hp9
    clear hp9
    go_upto_region 10 with (fail)
    obtain ⟨W10, hW10⟩ : ∃ W, W = w9.setCell ⟨ob, 2, none⟩ (.slice Ao (rListOf do_).length co) := ⟨_, rfl⟩
    rw [← hW10]
    have HP10 : Hid (PH W2 W10 bp ob A c ts sdo ⟨nm, rListOf di, rListOf do_, [], []⟩ { Lie.zero with ai := Ai, ci := ci, ao := Ao, co := co }) := by rw [hW10]; exact HP9.out.outs' HR0.out HO9.out
    clear hW10 HP9 HO9 n1 n2 n3 n4 n5 n6 n7 n8
    go_wp2_with fail
    refine (HN2.out _ _ _ _ HP10.out.took.1).mono ?_
    rintro e w11 ⟨rfl, hk⟩
    have HP11 := Lib.hid (HP10.out.step hk)
    clear hk HP10 HN2
    go_wp2_with fail
    refine (HTV.out _ _ _ _ HP11.out.took.1).mono ?_
    rintro e w12 ⟨rfl, hk⟩
    have HP12 := Lib.hid (HP11.out.step hk)
    clear hk HP11 HTV
    go_upto_if 45 with (fail)
    go_cut [10] (fun v wx => ∃ L, Hid (PH W2 wx bp ob A c ts lo.2 ⟨nm, rListOf di, rListOf do_, lo.1, []⟩ L))
    case first =>
      have hlp := HLP.out
      rcases vb with _ | _
      · rw [if_neg (by decide)] at hlp HP12
        subst hlp
        go_wp2_with fail
        go_meet
        case rel => exact ⟨_, HP12.out⟩
      · have HBD := Lib.hid (sees_lt HVB.out.symm)
        rw [if_pos rfl] at hlp HP12
        have HJ0 : Hid (OwnAt ts lo true [] s6.adv) := by unfold RowKit.Hid OwnAt; rw [if_pos rfl, hlp]; rfl
        have HPL0 := Lib.hid (HP12.out.loop ⟨rfl, rfl, rfl⟩)
        clear hlp HP12
        have HP12 := HPL0
        clear HPL0
        obtain ⟨lb, hlb⟩ : ∃ lb, lb = w12.heap.size := ⟨_, rfl⟩
        rw [← hlb] at HP12
        clear hlb
        obtain ⟨i0, hi, hz0, hz1, hz2⟩ := info_parts infoVr
        go_wp2_with fail
        go_loopw [10] (fun v wr => ∃ (fb : Bool) (done : List Vr) (s' : St) (L : Lie), v = .bool fb ∧ Hid (OwnAt ts lo fb done s') ∧ (fb = true → s'.bad = false) ∧ done.length ≤ s'.at_ + 1 ∧ (s'.bad = false → done.length ≤ s'.at_) ∧ Hid (PL W2 wr bp ob lb A c ts s' ⟨nm, rListOf di, rListOf do_, done, []⟩ L)) (fun _ wr => meas wr bp ts.length)
        case atStart => exact ⟨true, [], s6.adv, _, rfl, HJ0.out, fun _ => HBD.out.1, Nat.zero_le _, fun _ => Nat.zero_le _, HP12.out⟩
        case round =>
          clear HP12 HJ0
          obtain ⟨fb, done, s', L, rfl, HJ, hfb, hd1, hd2, HP⟩ := hrel
          have hle := HP.out.ph.took.1.le
          have hme := HP.out.ph.took.1.meas ts.length
          obtain ⟨q0, q1, q2, q3, q4, q5⟩ := row6 HP.out.ph.took.1
          rcases hb : s'.bad with _ | _
          · rw [hb] at q2 hme
            have hd2 := hd2 hb
            have HISS := Lib.hid (HIS.out bp A c s')
            unfold wLet at HISS
            have hJN := HJ.out.next
            have hJS := fun h => OwnAt.stop (ts := ts) (R := lo) (done := done) (s := s') h
            rw [hb, Bool.false_or] at hJN hJS
            have hat := ownP_at ts s'
            have hok := ownP_ok (ts := ts) (s := s')
            have HOC := Lib.hid (HOW.out bp A c s')
            generalize ownP ts s' = q at *
            obtain ⟨v2, s3'⟩ := q
            dsimp only at hat hok hJN
            rcases fb with _ | _
            · rcases h2 : sees ts s' wLet with _ | _
              · have HJ2 := Lib.hid (hJN (fun _ => h2))
                have h2' : sees ts s' [108, 101, 116] = false := h2
                rw [h2'] at HISS
                clear h2 h2' hJN hJS
                go_wp2_with fail
                refine (HISS.out _ HP.out.ph.took.1).mono ?_
                rintro e w5 ⟨rfl, hb5⟩
                have HP5 := Lib.hid (HP.out.by hb5)
                clear hb5 q0 q1 q2 q3 q4 q5
                go_wp2_with fail
                refine wp_region_any (by kernel_rfl) ?_
                refine wpAny_ops (ops' := rhdOps) (by kernel_rfl) ?_
                refine rhdRegion _ W2 w5 (by simp) bp A c ts ⟨0, false⟩ s' s3' ob done.length lb (pgRow ⟨nm, rListOf di, rListOf do_, done, []⟩ L) (.slice L.al done.length L.cl) (varsCells done) v2 HR0.out rfl rfl HP5.out.lbs.1 HP5.out.ph.lo.1 HP5.out.ph.lo.2.1 HP5.out.lbs.2 (by omega) HP5.out.ph.prow HP5.out.loc HP5.out.ph.took HOC.out rfl rfl ?_
                intro vs wq hc
                simp only [rhdSlots, List.foldl_cons, List.foldl_nil]
                simp only [rhdVal]
                simp only [Act.put, List.setIfInBounds_toArray, List.set_cons_zero, List.set_cons_succ]
                obtain ⟨u0, _, _, _, _, _, _, _, u8, u9, u10⟩ := hc
                simp only [if_true] at u9 u10
                have u8' := u8 rfl
                obtain ⟨A7, c7, e7⟩ := own_slice u8'
                rw [e7] at u9 u8'
                have HP7 := Lib.hid (HP5.out.app u0 u8' u9 u10)
                dsimp only at HP7
                clear u0 u8 u9 u10 u8'
                go_wp2_with fail
                go_roundw
                case rel => exact ⟨false, done ++ [v2], s3', _, rfl, HJ2.out, fun h => (by cases h), by simp; omega, fun h => by have := hok h; simp; omega, HP7.out⟩
                case measure => rw [hme, HP7.out.ph.took.1.meas]; have := HP7.out.ph.took.1.le; rcases hb3 : s3'.bad with _ | _ <;> first | (have := hok hb3; simp; omega) | (simp; omega)
              · have HJ2 := Lib.hid (hJS HJ.out h2)
                have h2' : sees ts s' [108, 101, 116] = true := h2
                rw [h2'] at HISS
                clear h2 h2' hJN hJS
                go_wp2_with fail
                refine (HISS.out _ HP.out.ph.took.1).mono ?_
                rintro e w5 ⟨rfl, hb5⟩
                have HP5 := Lib.hid (HP.out.by hb5)
                clear hb5 q0 q1 q2 q3 q4 q5
                go_wp2_with fail
                go_meet
                case rel =>
                  rw [HJ2.out]
                  exact ⟨L, HP5.out.ph⟩
            · have HJ2 := Lib.hid (hJN (fun h => (by cases h)))
              clear hJN hJS q0 q1 q2 q3 q4 q5
              go_wp2_with fail
              refine wp_region_any (by kernel_rfl) ?_
              refine wpAny_ops (ops' := rhdOps) (by kernel_rfl) ?_
              refine rhdRegion _ W2 wr (by simp) bp A c ts ⟨0, false⟩ s' s3' ob done.length lb (pgRow ⟨nm, rListOf di, rListOf do_, done, []⟩ L) (.slice L.al done.length L.cl) (varsCells done) v2 HR0.out rfl rfl HP.out.lbs.1 HP.out.ph.lo.1 HP.out.ph.lo.2.1 HP.out.lbs.2 (by omega) HP.out.ph.prow HP.out.loc HP.out.ph.took HOC.out rfl rfl ?_
              intro vs wq hc
              simp only [rhdSlots, List.foldl_cons, List.foldl_nil]
              simp only [rhdVal]
              simp only [Act.put, List.setIfInBounds_toArray, List.set_cons_zero, List.set_cons_succ]
              obtain ⟨u0, _, _, _, _, _, _, _, u8, u9, u10⟩ := hc
              simp only [if_true] at u9 u10
              have u8' := u8 rfl
              obtain ⟨A7, c7, e7⟩ := own_slice u8'
              rw [e7] at u9 u8'
              have HP7 := Lib.hid (HP.out.app u0 u8' u9 u10)
              dsimp only at HP7
              clear u0 u8 u9 u10 u8'
              go_wp2_with fail
              go_roundw
              case rel => exact ⟨false, done ++ [v2], s3', _, rfl, HJ2.out, fun h => (by cases h), by simp; omega, fun h => by have := hok h; simp; omega, HP7.out⟩
              case measure => rw [hme, HP7.out.ph.took.1.meas]; have := HP7.out.ph.took.1.le; rcases hb3 : s3'.bad with _ | _ <;> first | (have := hok hb3; simp; omega) | (simp; omega)
          · rcases fb with _ | _
            · have HJ2 := Lib.hid (HJ.out.stop (by rw [hb]; rfl))
              rw [hb] at q2 hme
              go_wp2_with fail
              go_meet
              case rel =>
                rw [HJ2.out]
                exact ⟨L, HP.out.ph⟩
            · have := hfb rfl
              rw [hb] at this
              cases this
    case rest =>
      obtain ⟨L0, HPH⟩ := hcut
      clear HP12 HOW HIS HLP HVB
      go_wp2_with fail
      refine (HNL.out _ _ _ _ HPH.out.took.1).mono ?_
      rintro e w13 ⟨rfl, hk⟩
      have HPR := Lib.hid ((HPH.out.step hk).eqs)
      clear hk HPH HNL
      obtain ⟨eb, heb⟩ : ∃ eb, eb = w13.heap.size := ⟨_, rfl⟩
      rw [← heb] at HPR
      clear heb
      have HBW : Hid (∀ (W : World) (s : St), Took W2 bp 66 A c ts s W → Below w.heap.size w W) := fun W s h => HB2.out.trans (h.own (by have := (Array.getElem?_eq_some_iff.1 HZ2.out).1; omega) (by have := HB2.out.size; omega))
      have HZW : Hid (∀ (W : World) (s : St), Took W2 bp 66 A c ts s W → W.heap[w.heap.size]? = some (.cells zpg 26 (0, 0))) := fun W s h => h.row HZ2.out (by omega)
      clear HZ2 HB2
      obtain ⟨i0, hi, hz0, hz1, hz2⟩ := info_parts infoEqP
      go_wp2_with fail
      go_loopw [11] (fun v wr => ∃ (es : List Eqn) (s' : St) (L : Lie) (xs : List Value), Hid (r = finT ts l.length ⟨nm, rListOf di, rListOf do_, lo.1, es⟩ es (eqsL ts l.length s')) ∧ es.length ≤ s'.at_ ∧ Hid (∀ q ∈ es, EqFit q) ∧ Hid (PR W2 wr bp ob eb A c ts s' ⟨nm, rListOf di, rListOf do_, lo.1, es⟩ L xs)) (fun _ wr => meas wr bp ts.length)
      case atStart => exact ⟨[], s8, L0, [], HRR.out, Nat.zero_le _, fun q hq => by simp at hq, HPR.out⟩
      case round =>
        clear HPR HRR
        obtain ⟨es, s', L, xs, HJ, hes, HEF, HP⟩ := hrel
        have hle := HP.out.took.1.le
        have hme := HP.out.took.1.meas ts.length
        obtain ⟨q0, q1, q2, q3, q4, q5⟩ := row6 HP.out.took.1
        rcases hb : s'.bad with _ | _
        · rw [hb] at q2 hme
          rcases h2 : sees ts s' wTel with _ | _
          · have HT := Lib.hid (fun W h => HTE.out bp A c s' W h)
            rw [h2, if_neg (by decide)] at HT
            unfold wTel at HT
            go_wp2_with fail
            refine (HT.out _ HP.out.took.1).mono ?_
            rintro e w5 ⟨rfl, hk5⟩
            have HP6 := Lib.hid (HP.out.step hk5)
            clear hk5 q0 q1 q2 q3 q4 q5
            obtain ⟨q0, q1, q2, q3, q4, q5⟩ := row6 HP6.out.took.1
            have HFE := Lib.hid (eqP_fit HFT.out s')
            have hea := eqP_at ts s'
            have heo := eqP_ok (ts := ts) (s := s')
            have hf1 := finT_fail (ts := ts) (N := (l.length : Int)) (h := ⟨nm, rListOf di, rListOf do_, lo.1, es⟩) (done := es) hb h2
            have hf2 := finT_wrong (ts := ts) (N := (l.length : Int)) (h := ⟨nm, rListOf di, rListOf do_, lo.1, es⟩) (done := es) hb h2
            have hf3 := finT_next (ts := ts) (N := (l.length : Int)) (h := ⟨nm, rListOf di, rListOf do_, lo.1, es⟩) (done := es) hb h2
            have hcap : ts.length ≤ c := by
              by_cases h0 : ts.length = 0
              · omega
              · exact HCAP.out h0
            have HEQ2 := Lib.hid (HEQ.out bp A c s' w5 hcap HP6.out.took.1)
            clear h2 hcap
            go_wp2_with fail
            clear q0 q1 q2 q3 q4 q5
            refine HEQ2.out.mono ?_
            rintro e w7 ⟨AF, cF, AE, cE, rfl, ha1, ha2, hk7⟩
            have hsz7 := hk7.2.size
            have HP7 := Lib.hid (HP6.out.step hk7)
            have HA1 := Lib.hid ha1
            have HA2 := Lib.hid ha2
            clear ha1 ha2 hk7 HEQ2
            generalize eqP ts s' = q at *
            obtain ⟨q, s2⟩ := q
            unfold eqCells
            dsimp only at *
            have HF1 := Lib.hid hf1
            have HF2 := Lib.hid hf2
            have HF3 := Lib.hid hf3
            have HEA := Lib.hid heo
            clear hf1 hf2 hf3 heo
            go_upto_region 20 with (fail)
            obtain ⟨W8, hW8⟩ : ∃ W8, W8 = w7.alloc (.cells #[.string ⟨q.name.toArray⟩, .int .i64 q.delay, .int .i64 q.first.kind, .int .i32 q.first.n, .string ⟨q.first.name.toArray⟩, .slice AF q.first.sub.length cF, .int .i64 q.e.kind, .int .i32 q.e.n, .string ⟨q.e.name.toArray⟩, .slice AE q.e.sub.length cE] 56) := ⟨_, rfl⟩
            rw [← hW8]
            have hb8 : Below w7.heap.size w7 W8 := by rw [hW8]; exact (Below.refl _ _).alloc (Nat.le_refl _) _
            have HQ8 : Hid (W8.heap[w7.heap.size]? = some (.cells #[.string ⟨q.name.toArray⟩, .int .i64 q.delay, .int .i64 q.first.kind, .int .i32 q.first.n, .string ⟨q.first.name.toArray⟩, .slice AF q.first.sub.length cF, .int .i64 q.e.kind, .int .i32 q.e.n, .string ⟨q.e.name.toArray⟩, .slice AE q.e.sub.length cE] 56 (0, 0))) := by rw [hW8]; exact heap_alloc_new _ _
            have HP8 := Lib.hid (HP7.out.by hb8)
            have hlo6 := HP6.out.lo
            have oK : ∀ b, w5.heap.size ≤ b → ownK ob (eqSl L ⟨nm, rListOf di, rListOf do_, lo.1, es⟩) b := fun b hb => ⟨by omega, fun k hk => by have := (HP6.out.eqs.lt k hk).2; omega⟩
            have HA18 := Lib.hid ((HA1.out.base (B' := ownK ob (eqSl L ⟨nm, rListOf di, rListOf do_, lo.1, es⟩)) (fun b hb _ => oK b hb)).below hb8 (Nat.le_refl _))
            have HA28 := Lib.hid ((HA2.out.base (B' := ownK ob (eqSl L ⟨nm, rListOf di, rListOf do_, lo.1, es⟩)) (fun b hb _ => oK b hb)).below hb8 (Nat.le_refl _))
            have hsz8 : w7.heap.size < W8.heap.size := by rw [hW8]; simp
            clear hW8 hb8 oK HA1 HA2 HP7 HP6
            obtain ⟨q0, q1, q2, q3, q4, q5⟩ := row6 HP8.out.took.1
            rcases hb2 : s2.bad with _ | _
            · rw [hb2] at q2
              have HF2' := Lib.hid (HF2.out hb2)
              have HF3' := Lib.hid (HF3.out hb2)
              have HEA' := HEA.out hb2
              obtain ⟨⟨m1, m2, m3, m4, m5, m6, m7, m8, m9⟩, -⟩ := row10 HQ8.out
              have m0 := cell_of_row W8 w7.heap.size 0 _ _ _ HQ8.out
              simp only [List.getElem?_toArray] at m0
              clear HF1 HF2 HF3 HEA
              go_wp2_with fail
              refine (refright_any q.e _ AE cE _ HA28.out HFE.out.2.2).mono ?_
              rintro e w9 ⟨rfl, hb9⟩
              have HP9 := Lib.hid (HP8.out.by hb9)
              have HQ9 := Lib.hid ((hb9.block _ (Array.getElem?_eq_some_iff.1 HQ8.out).1).trans HQ8.out)
              have HA19 := Lib.hid (HA18.out.below hb9 (Nat.le_refl _))
              have HA29 := Lib.hid (HA28.out.below hb9 (Nat.le_refl _))
              have hsz9 := hb9.size
              clear hb9 HP8 HQ8 HA18 HA28 q0 q1 q2 q3 q4 q5 m0 m1 m2 m3 m4 m5 m6 m7 m8 m9
              by_cases hr0 : right q.e = 0
              · have HJ1 := Lib.hid (HJ.out.trans (HF3'.out hr0))
                rw [hr0]
                have hp9 := HP9.out.prow
                unfold pgRow at hp9
                dsimp only at hp9
                obtain ⟨⟨n1, n2, n3, n4⟩, n5, n6, n7, n8⟩ := row5 hp9
                have hro := HP9.out.eqs
                unfold eqSl at hro
                dsimp only at hro
                have HRO := Lib.hid hro
                have hle2 := HP9.out.took.1.le
                have hlo9 := HP9.out.lo
                clear hp9 hro HF2'
                go_wp2_with (first | (refine wpList_load_row rfl 56 (.tmp 12) rfl w7.heap.size rfl 56 #[.string ⟨q.name.toArray⟩, .int .i64 q.delay, .int .i64 q.first.kind, .int .i32 q.first.n, .string ⟨q.first.name.toArray⟩, .slice AF q.first.sub.length cF, .int .i64 q.e.kind, .int .i32 q.e.n, .string ⟨q.e.name.toArray⟩, .slice AE q.e.sub.length cE] (0, 0) _ HQ9.out Try.underlying56 rfl infoEq ?_) | (at_builtin; refine wpList_append_own_at _ rfl _ _ 24 rfl eb 56 i0 _ 10 136 Try.underlying24 hi hz0 hz1 hz2 rfl (by decide) _ _ _ rfl (HRO.out.alloc _) ⟨w9.heap.size, 0, none⟩ 1 1 (eqCells q AF cF AE cE) rfl rfl ?c1 ?c2 ?c3 ?c4 ?c5 ?_))
                case c1 => exact Go.Proofs.Ytilkilffkjhhbaa.cells_new _ _ _ _ rfl
                case c2 => exact eqCells_one _ _ _ _ _
                case c3 => unfold maxLen; omega
                case c4 => omega
                case c5 => simp; omega
                intro v' w10 hown hgrow _ hv'
                obtain ⟨A', c', rfl⟩ := own_slice hown
                have hba : Below w9.heap.size w9 (w9.alloc (.cells #[.string ⟨q.name.toArray⟩, .int .i64 q.delay, .int .i64 q.first.kind, .int .i32 q.first.n, .string ⟨q.first.name.toArray⟩, .slice AF q.first.sub.length cF, .int .i64 q.e.kind, .int .i32 q.e.n, .string ⟨q.e.name.toArray⟩, .slice AE q.e.sub.length cE] 56)) := (Below.refl _ _).alloc (Nat.le_refl _) _
                have hp9a := HP9.out.by hba
                have hp10 : w10.heap[ob]? = some (.cells (pgRow ⟨nm, rListOf di, rListOf do_, lo.1, es⟩ L) 26 (0, 0)) := (hgrow.block _ (by have := hp9a.lo; omega) (fun e => by have := (hp9a.eqs.lt ob e.symm).1; have := hp9a.lo; omega)).trans hp9a.prow
                have HAPP := Lib.hid (hp9a.app HR0.out (HA19.out.below hba (Nat.le_refl _)) (HA29.out.below hba (Nat.le_refl _)) hown hgrow (by rcases hv' with e | e <;> first | exact .inl e | exact .inr (by rw [e]; simp)))
                unfold pgRow at hp10
                dsimp only at hp10
                obtain ⟨⟨n1, n2, n3, n4⟩, n5, n6, n7, n8⟩ := row5 hp10
                clear hown hgrow hv' hba hp9a hp10
                go_wp2_with fail
                go_roundw
                case rel => exact ⟨es ++ [q], s2, _, _, HJ1.out, by simp; omega, fun q' hq' => by
                  rcases List.mem_append.1 hq' with h | h
                  · exact HEF.out q' h
                  · rw [List.mem_singleton.1 h]; exact HFE.out, HAPP.out⟩
                case measure => rw [hme, HAPP.out.took.1.meas, hb2]; have := HAPP.out.took.1.le; simp; omega
              · have HJ1 := Lib.hid (HJ.out.trans (HF2'.out hr0))
                have hne : (right q.e != 0) = true := by simpa using hr0
                have HPL := Lib.hid (refplace_any A c ts s' (l.length : Int) w9 HP9.out.took.1.toks hlen)
                have HZ9 := Lib.hid (HZW.out _ _ HP9.out.took)
                have HB9 := Lib.hid (HBW.out _ _ HP9.out.took)
                clear HF3'
                go_wp2_with (first | (go_at_call 43; refine HPL.out.mono ?_; rintro e w' ⟨rfl, rfl⟩) | (refine wpList_store_row rfl 26 (.tmp 2) (.tmp 93) rfl w.heap.size zpg rfl rfl 26 zpg HZ9.out infoPg rfl zpg_one ?_))
                rw [HJ1.out]
                exact ret_row_tmp2 2 3 4 rfl rfl rfl rfl rfl (setRow_heap _ _ _ zpg _ _ HZ9.out) Try.underlying26 infoPg ⟨Lie.zero, rfl, pgAt_zero _ _ _, below_setRow_ HB9.out (Nat.le_refl _)⟩
            · rw [hb2] at q2
              have HJ1 : Hid (r = (Pg.zero, 16, plc ts s2 l.length)) := HJ.out.trans (HF1.out hb2)
              have HPL := Lib.hid (refplace_any A c ts s2 (l.length : Int) W8 HP8.out.took.1.toks hlen)
              have HZ9 := Lib.hid (HZW.out _ _ HP8.out.took)
              have HB9 := Lib.hid (HBW.out _ _ HP8.out.took)
              go_wp2_with (first | (go_at_call 43; refine HPL.out.mono ?_; rintro e w' ⟨rfl, rfl⟩) | (refine wpList_store_row rfl 26 (.tmp 2) (.tmp 119) rfl w.heap.size zpg rfl rfl 26 zpg HZ9.out infoPg rfl zpg_one ?_))
              rw [HJ1.out]
              exact ret_row_tmp2 2 3 4 rfl rfl rfl rfl rfl (setRow_heap _ _ _ zpg _ _ HZ9.out) Try.underlying26 infoPg ⟨Lie.zero, rfl, pgAt_zero _ _ _, below_setRow_ HB9.out (Nat.le_refl _)⟩
          · have HT := Lib.hid (fun W h => HTE.out bp A c s' W h)
            rw [h2, if_pos rfl] at HT
            unfold wTel at HT
            have HFT2 := Lib.hid (HJ.out.trans (finT_tel hb h2))
            go_wp2_with fail
            refine (HT.out _ HP.out.took.1).mono ?_
            rintro e w5 ⟨rfl, hk5⟩
            have HP5 := Lib.hid (HP.out.step hk5)
            clear hk5 q0 q1 q2 q3 q4 q5
            obtain ⟨q0, q1, q2, q3, q4, q5⟩ := row6 HP5.out.took.1
            have hle5 := HP5.out.took.1.le
            have hbb : s'.adv.bad = false := hb
            rw [hbb] at q2
            have HZ9 := Lib.hid (HZW.out _ _ HP5.out.took)
            have HB9 := Lib.hid (HBW.out _ _ HP5.out.took)
            have HPL := Lib.hid (refplace_any A c ts s'.adv (l.length : Int) w5 HP5.out.took.1.toks hlen)
            rw [adv_at] at q1 hle5 HPL
            by_cases hend : s'.at_ + 1 < ts.length
            · have HJ1 : Hid (r = (Pg.zero, 16, plc ts s'.adv l.length)) := by have h := HFT2.out; rw [if_pos hend] at h; exact h
              go_wp2_with (first | (go_at_call 43; refine HPL.out.mono ?_; rintro e w' ⟨rfl, rfl⟩) | (refine wpList_store_row rfl 26 (.tmp 2) (.tmp 119) rfl w.heap.size zpg rfl rfl 26 zpg HZ9.out infoPg rfl zpg_one ?_))
              rw [HJ1.out]
              exact ret_row_tmp2 2 3 4 rfl rfl rfl rfl rfl (setRow_heap _ _ _ zpg _ _ HZ9.out) Try.underlying26 infoPg ⟨Lie.zero, rfl, pgAt_zero _ _ _, below_setRow_ HB9.out (Nat.le_refl _)⟩
            · have HJ1 : Hid (r = (⟨nm, rListOf di, rListOf do_, lo.1, es⟩, 0, 0)) := by have h := HFT2.out; rw [if_neg hend] at h; exact h
              go_wp2_with (first | (refine wpList_load_row rfl 26 (.tmp 9) rfl ob rfl 26 (pgRow ⟨nm, rListOf di, rListOf do_, lo.1, es⟩ L) (0, 0) _ HP5.out.prow Try.underlying26 rfl infoPg ?_) | (refine wpList_store_row rfl 26 (.tmp 2) (.tmp 128) rfl w.heap.size (pgRow ⟨nm, rListOf di, rListOf do_, lo.1, es⟩ L) rfl rfl 26 zpg HZ9.out infoPg rfl (pgRow_one _ _) ?_))
              rw [HJ1.out]
              exact ret_row_tmp2 2 3 4 rfl rfl rfl rfl rfl (setRow_heap _ _ _ _ _ _ HZ9.out) Try.underlying26 infoPg (HP5.out.fin (by omega) HB9.out _)
        · have HJ1 : Hid (r = (Pg.zero, 16, plc ts s' l.length)) := HJ.out.trans (finT_bad hb)
          rw [hb] at q2 hme
          have HPL := Lib.hid (refplace_any A c ts s' (l.length : Int) wr HP.out.took.1.toks hlen)
          have HZ9 := Lib.hid (HZW.out _ _ HP.out.took)
          have HB9 := Lib.hid (HBW.out _ _ HP.out.took)
          go_wp2_with (first | (go_at_call 43; refine HPL.out.mono ?_; rintro e w' ⟨rfl, rfl⟩) | (refine wpList_store_row rfl 26 (.tmp 2) (.tmp 119) rfl w.heap.size zpg rfl rfl 26 zpg HZ9.out infoPg rfl zpg_one ?_))
          rw [HJ1.out]
          exact ret_row_tmp2 2 3 4 rfl rfl rfl rfl rfl (setRow_heap _ _ _ zpg _ _ HZ9.out) Try.underlying26 infoPg ⟨Lie.zero, rfl, pgAt_zero _ _ _, below_setRow_ HB9.out (Nat.le_refl _)⟩
end Go.Proofs.Ytilkilffkjhhbaa
