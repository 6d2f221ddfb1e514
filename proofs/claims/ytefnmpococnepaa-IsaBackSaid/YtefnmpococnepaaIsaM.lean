/-
  An instruction in bytes by the reference, sizes, and a code in bytes.
-/
import Derived.Test.YtefnmpococnepaaIsaL
namespace Go.Proofs.Ytefnmpococnepaa
open Go.RowKit Mem

set_option maxHeartbeats 4000000 in
theorem refbytes_bad (i : Ia.Ins) (w : World) (h : Ia.right i ≠ 0) :
    Calls Try.prog 20 #[insAgg i] w fun e w' => e = .returned (.tuple #[.slice none 0 0, .int .i64 (Ia.right i)]) ∧ Below w.heap.size w w' := by
  have hb : ((Ia.right i) != 0) = true := by rw [bne_iff_ne]; exact h
  have HR := Lib.hid (refright i)
  clear h
  unfold insAgg at *
  generalize Ia.right i = rt at *
  go_enter Try.func20, Try.ntmps20
  go_wp2_with fail
  refine (HR.out _).mono ?_
  rintro e w1 ⟨rfl, hb1⟩
  obtain ⟨_, hbu⟩ := below_up hb1
  clear hb1
  go_wp2_with fail
  go_ret2
  exact ⟨rfl, hbu⟩
set_option maxHeartbeats 4000000 in
theorem refbytes_ok (i : Ia.Ins) (w : World) (h : Ia.right i = 0) (h1 : -2147483648 ≤ i.n) (h2 : i.n ≤ 2147483647) :
    Calls Try.prog 20 #[insAgg i] w fun e w' => ∃ v, e = .returned (.tuple #[v, .int .i64 0]) ∧ w'.ownsRow w.heap.size 5 1 v (1 + Ia.form i.op) (bcells (Ia.bytesOf i)) ∧ Below w.heap.size w w' := by
  have HR := Lib.hid (refright i)
  rw [h] at HR
  have HP := Lib.hid (right_plain h)
  have HW := Lib.hid (w64_nat (Nat.lt_trans (plain_lt i.n) (by decide)))
  have HO := Lib.hid (w8_op h)
  have hpl : (Ia.plainN i.n : Int) ≤ 4294967295 := by have := plain_lt i.n; omega
  have hf1 := Ia.right_form h
  have hf4 := Ia.form_le i.op
  have hfa : 1 ≤ Ia.form i.op := by omega
  have hfb : Ia.form i.op < 8 := by omega
  clear h hf1 hf4
  unfold insAgg at *
  go_enter Try.func20, Try.ntmps20
  go_wp2_with fail
  refine (HR.out _).mono ?_
  rintro e w1 ⟨rfl, hb1⟩
  obtain ⟨hs1, hbu⟩ := below_up hb1
  have k0 := (below_new hb1 0).1
  have k1 := (below_new hb1 1).1
  have HB := Lib.hid hbu
  clear hb1 hbu
  simp at k0 k1
  go_wp2_with fail
  go_region_held3 (fun w' => w'.cell? ⟨w.heap.size, 0, none⟩ = some (.int .i64 i.op) ∧ w'.cell? ⟨w.heap.size, 1, none⟩ = some (.int .i32 i.n)) (go_keep)
    (first
      | (go_at_call 32; refine (refwidth _ _).mono ?_; rintro e w' ⟨rfl, rfl⟩)
      | (go_at_call 38; refine (refplain _ h1 h2 _).mono ?_; rintro e w' ⟨rfl, rfl⟩)
      | (go_at_call 37; rw [HW.out, HO.out]; refine (refput [UInt8.ofNat i.op.toNat] _ 1 (Ia.form i.op) (Ia.plainN i.n) _ (src_one _ _ _) (by simp) hpl hfa hfb HP.out).mono ?_; rintro e w2 ⟨v, rfl, hown, hb2⟩; have HO2 := Lib.hid hown; have k2 := (hb2.cell (p := ⟨w.heap.size, 0, none⟩) (by simp; omega)); have k3 := (hb2.cell (p := ⟨w.heap.size, 1, none⟩) (by simp; omega)); have HB2 := Lib.hid hb2; clear hown hb2; simp [go_sem] at k2 k3))
  all_goals
    go_wp2_with fail
    go_ret2
    refine ⟨_, rfl, own_base HO2.out (by simp; omega), ?_⟩
    exact (below_drewN (HB.out.alloc HB.out.size _) 1).trans (HB2.out.mono (by simp; omega))
theorem size_bad {i : Ia.Ins} (h : Ia.right i ≠ 0) : Ia.size i = 0 := by unfold Ia.size; rw [if_neg h]
theorem size_ok {i : Ia.Ins} (h : Ia.right i = 0) : Ia.size i = 1 + Ia.form i.op := by unfold Ia.size; rw [if_pos h]
set_option maxHeartbeats 4000000 in
theorem isasize (i : Ia.Ins) (w : World) :
    Calls Try.prog 23 #[insAgg i] w fun e w' => e = .returned (.int .i64 (Ia.size i : Nat)) ∧ Below w.heap.size w w' := by
  have HR := Lib.hid (isaright i)
  by_cases h : Ia.right i = 0
  · rw [size_ok h]
    rw [h] at HR
    have hf4 := Ia.form_le i.op
    have hf5 : (Ia.form i.op : Int) ≤ 4 := by omega
    have hf6 : (0 : Int) ≤ Ia.form i.op := by omega
    clear h hf4
    unfold insAgg at *
    go_enter Try.func23, Try.ntmps23
    go_wp2_with fail
    refine (HR.out _).mono ?_
    rintro e w1 ⟨rfl, hb1⟩
    obtain ⟨hs1, hbu⟩ := below_up hb1
    have k0 := (below_new hb1 0).1
    have k1 := (below_new hb1 1).1
    have HB := Lib.hid hbu
    clear hb1 hbu
    simp at k0 k1
    go_wp2_with fail
    refine (isaform _ _).mono ?_
    rintro e w' ⟨rfl, rfl⟩
    go_wp2_with fail
    go_ret
    exact ⟨ret_int (by omega), HB.out⟩
  · rw [size_bad h]
    have hb : ((Ia.right i) != 0) = true := by rw [bne_iff_ne]; exact h
    clear h
    unfold insAgg at *
    generalize Ia.right i = rt at *
    go_enter Try.func23, Try.ntmps23
    go_wp2_with fail
    refine (HR.out _).mono ?_
    rintro e w1 ⟨rfl, hb1⟩
    obtain ⟨hs1, hbu⟩ := below_up hb1
    clear hb1
    go_wp2_with fail
    go_ret
    exact ⟨rfl, hbu⟩
set_option maxHeartbeats 4000000 in
theorem refsize (i : Ia.Ins) (w : World) (h1 : -2147483648 ≤ i.n) (h2 : i.n ≤ 2147483647) :
    Calls Try.prog 24 #[insAgg i] w fun e w' => e = .returned (.int .i64 (Ia.size i : Nat)) ∧ Below w.heap.size w w' := by
  by_cases h : Ia.right i = 0
  · rw [size_ok h]
    have HR := Lib.hid (fun W => refbytes_ok i W h h1 h2)
    clear h
    unfold insAgg at *
    go_enter Try.func24, Try.ntmps24
    go_wp2_with fail
    refine (HR.out _).mono ?_
    rintro e w1 ⟨v, rfl, hown, hb1⟩
    obtain ⟨A, c, rfl⟩ := own_slice hown
    obtain ⟨hs1, hbu⟩ := below_up hb1
    clear hb1 hown
    go_wp2_with fail
    go_ret
    exact ⟨ret_int (by simp), hbu⟩
  · rw [size_bad h]
    have HR := Lib.hid (fun W => refbytes_bad i W h)
    clear h
    unfold insAgg at *
    go_enter Try.func24, Try.ntmps24
    go_wp2_with fail
    refine (HR.out _).mono ?_
    rintro e w1 ⟨rfl, hb1⟩
    obtain ⟨hs1, hbu⟩ := below_up hb1
    clear hb1
    go_wp2_with fail
    go_ret
    exact ⟨rfl, hbu⟩
/-- a code in bytes, or its first fault -/
def encOf (l : List Ia.Ins) : List UInt8 × Int := if 600 < l.length then ([], 3) else if Ia.wrong l ≠ 0 then ([], Ia.wrong l) else (Ia.encode l, 0)
theorem encode_append : ∀ a b : List Ia.Ins, Ia.encode (a ++ b) = Ia.encode a ++ Ia.encode b
  | [], _ => rfl
  | i :: r, b => by simp only [List.cons_append, Ia.encode, encode_append r b, List.append_assoc]
theorem wrong_append : ∀ a b : List Ia.Ins, Ia.wrong a = 0 → Ia.wrong (a ++ b) = Ia.wrong b
  | [], _, _ => rfl
  | i :: r, b, h => by
    simp only [List.cons_append, Ia.wrong] at h ⊢
    by_cases h1 : Ia.right i ≠ 0
    · rw [if_pos h1] at h; exact absurd h h1
    · rw [if_neg h1] at h ⊢; exact wrong_append r b h
theorem encode_len : ∀ l : List Ia.Ins, (Ia.encode l).length ≤ 5 * l.length
  | [] => by simp [Ia.encode]
  | i :: r => by
    have := encode_len r
    have := Ia.form_le i.op
    simp only [Ia.encode, Ia.bytesOf, List.length_append, List.length_cons, Ia.le_length]
    omega
theorem take_snoc_ins (l : List Ia.Ins) (k : Nat) (h : k < l.length) : l.take (k + 1) = l.take k ++ [l[k]'h] := by
  rw [List.take_succ_eq_append_getElem h]
theorem wrong_at (l : List Ia.Ins) (k : Nat) (h : k < l.length) (h0 : Ia.wrong (l.take k) = 0) (hr : Ia.right (l[k]'h) ≠ 0) : Ia.wrong l = Ia.right (l[k]'h) := by
  have e : l = l.take k ++ (l[k]'h :: l.drop (k + 1)) := by rw [← List.drop_eq_getElem_cons h, List.take_append_drop]
  refine (congrArg Ia.wrong e).trans ?_
  rw [wrong_append _ _ h0]
  simp only [Ia.wrong]
  rw [if_pos hr]
theorem wrong_step (l : List Ia.Ins) (k : Nat) (h : k < l.length) (h0 : Ia.wrong (l.take k) = 0) (hr : Ia.right (l[k]'h) = 0) : Ia.wrong (l.take (k + 1)) = 0 := by
  rw [take_snoc_ins l k h, wrong_append _ _ h0]
  simp only [Ia.wrong]
  rw [if_neg (by omega)]
theorem encode_step (l : List Ia.Ins) (k : Nat) (h : k < l.length) : Ia.encode (l.take (k + 1)) = Ia.encode (l.take k) ++ Ia.bytesOf (l[k]'h) := by
  rw [take_snoc_ins l k h, encode_append]
  simp [Ia.encode]
theorem encOf_big {l : List Ia.Ins} (h : 600 < l.length) : encOf l = ([], 3) := by unfold encOf; rw [if_pos h]
theorem encOf_bad {l : List Ia.Ins} (h : ¬ 600 < l.length) (k : Nat) (hk : k < l.length) (h0 : Ia.wrong (l.take k) = 0) (hr : Ia.right (l[k]'hk) ≠ 0) : encOf l = ([], Ia.right (l[k]'hk)) := by
  have hw := wrong_at l k hk h0 hr
  unfold encOf; rw [if_neg h, hw, if_pos hr]
theorem encOf_ok {l : List Ia.Ins} (h : ¬ 600 < l.length) (h0 : Ia.wrong l = 0) : encOf l = (Ia.encode l, 0) := by
  unfold encOf; rw [if_neg h, h0, if_neg (by simp)]
set_option maxHeartbeats 4000000 in
theorem isaencode (l : List Ia.Ins) (A : Option Addr) (c : Nat) (w : World) (hA : InsAt w A l) (hn : l.length ≤ 4611686018427387904) (hr : ∀ k (h : k < l.length), -2147483648 ≤ (l[k]'h).n ∧ (l[k]'h).n ≤ 2147483647) :
    Calls Try.prog 27 #[.slice A l.length c] w fun e w' => ∃ v, e = .returned (.tuple #[v, .int .i64 (encOf l).2]) ∧ w'.ownsRow w.heap.size 5 1 v (encOf l).1.length (bcells (encOf l).1) ∧ Below w.heap.size w w' := by
  have HA := Lib.hid hA
  have HR := Lib.hid hr
  clear hA hr
  obtain ⟨i0, hi, hi0, hi1, hi2⟩ := info_parts infoByte
  by_cases hbig : 600 < l.length
  · have HE := Lib.hid (encOf_big hbig)
    go_enter Try.func27, Try.ntmps27
    go_wp2_with fail
    go_ret2
    rw [HE.out]
    exact ⟨_, rfl, World.ownsRow_nil _ _ _ _, Below.refl _ _⟩
  · go_enter Try.func27, Try.ntmps27
    go_wp2_with fail
    go_loopw [4, 14] (fun v i wr => ∃ k : Nat, k ≤ l.length ∧ i = .int .i64 k ∧ Hid (Ia.wrong (l.take k) = 0) ∧ Hid (wr.ownsRow w.heap.size 5 1 v (Ia.encode (l.take k)).length (bcells (Ia.encode (l.take k)))) ∧ Hid (Below w.heap.size w wr)) (fun _ i _ => l.length - (intOf i).toNat)
    case atStart => exact ⟨0, Nat.zero_le _, rfl, rfl, World.ownsRow_nil _ _ _ _, Below.refl _ _⟩
    case round =>
      obtain ⟨k, hk, rfl, h0, hO, hB⟩ := hrel
      by_cases hlt : k < l.length
      · obtain ⟨b, off, rfl, c0, c1⟩ := HA.out.below hB.out (Nat.le_refl _) k hlt
        have hq := HR.out k hlt
        have HQ1 := Lib.hid hq.1
        have HQ2 := Lib.hid hq.2
        clear hq
        have hz := hB.out.size
        by_cases hrt : Ia.right (l[k]'hlt) = 0
        · have HW := Lib.hid (wrong_step l k hlt h0.out hrt)
          have HS := Lib.hid (encode_step l k hlt)
          have HBy := Lib.hid (fun W => isabytes_ok (l[k]'hlt) W hrt HQ1.out HQ2.out)
          have hel := encode_len (l.take k)
          have htl : (l.take k).length ≤ k := List.length_take_le _ _
          have HN := Lib.hid (show (Ia.bytesOf (l[k]'hlt)).length = 1 + Ia.form (l[k]'hlt).op by simp only [Ia.bytesOf, List.length_cons, Ia.le_length]; omega)
          have hfo := Ia.form_le (l[k]'hlt).op
          clear hrt h0
          generalize l[k]'hlt = ins at *
          generalize Ia.encode (l.take k) = pre at *
          have hpre : pre.length ≤ 3000 := by omega
          have hfo2 : 1 + Ia.form ins.op ≤ 5 := by omega
          clear hfo hel htl
          unfold insAgg at HBy
          go_wp2_with fail
          refine (HBy.out _).mono ?_
          rintro e w1 ⟨v1, rfl, hown1, hb1⟩
          obtain ⟨A1, c1', rfl⟩ := own_slice hown1
          have HO1 : Hid (Src w1 A1 (1 + Ia.form ins.op) c1' (bcells (Ia.bytesOf ins)) 1) := Src.of_own hown1
          have hbr : Below wr.heap.size wr w1 := (below_up hb1).2
          have HB1 := Lib.hid (hB.out.trans (hbr.mono hz))
          have HO2 := Lib.hid (own_below hO.out hbr)
          obtain ⟨Av, cv, rfl⟩ := own_slice HO2.out
          clear hown1 hb1 hbr
          go_wp2_with (at_builtin; refine wpList_app_any rfl (.tmp 26) (.tmp 27) 22 rfl w.heap.size 5 i0 (.int .u8 0) 1 1 Try.underlying22 hi hi0 hi1 hi2 rfl (by decide) (.slice Av pre.length cv) pre.length (bcells pre) rfl HO2.out A1 (1 + Ia.form ins.op) c1' (bcells (Ia.bytesOf ins)) rfl HO1.out (bcells_one _) ?c3 ?c4 HB1.out.size ?_)
          case c3 => unfold maxLen; omega
          case c4 => omega
          intro v2 w2 hown2 hg2
          have HB2 : Hid (Below w.heap.size w w2) := HB1.out.grown hg2 HB1.out.size (fun b hb => (HO2.out.lt b hb).1)
          have hown3 : w2.ownsRow w.heap.size 5 1 v2 (Ia.encode (l.take (k + 1))).length (bcells (Ia.encode (l.take (k + 1)))) := by
            rw [HS.out, bcells_append, List.length_append, HN.out]; exact hown2
          have HO3 := Lib.hid hown3
          clear hown2 hg2 hown3
          go_wp2_with fail
          go_roundw
          case rel => exact ⟨k + 1, by omega, by go_num, HW, HO3, HB2⟩
          case measure => simp [intOf]; omega
        · have HE := Lib.hid (encOf_bad hbig k hlt h0.out hrt)
          have HBy := Lib.hid (fun W => isabytes_bad (l[k]'hlt) W hrt)
          have hne : (Ia.right (l[k]'hlt) != 0) = true := by rw [bne_iff_ne]; exact hrt
          clear hrt h0 HQ1 HQ2
          generalize l[k]'hlt = ins at *
          generalize Ia.right ins = rt at *
          unfold insAgg at HBy
          go_wp2_with fail
          refine (HBy.out _).mono ?_
          rintro e w1 ⟨rfl, hb1⟩
          have hbr : Below wr.heap.size wr w1 := (below_up hb1).2
          have HB1 := Lib.hid (hB.out.trans (hbr.mono hz))
          clear hb1 hbr
          go_wp2_with fail
          go_ret2
          rw [HE.out]
          exact ⟨_, rfl, World.ownsRow_nil _ _ _ _, HB1.out⟩
      · obtain rfl : k = l.length := by omega
        have h1 := h0.out
        have h2 := hO.out
        rw [List.take_length] at h1 h2
        have HE := Lib.hid (encOf_ok hbig h1)
        have HO2 := Lib.hid h2
        clear h1 h2
        go_wp2_with fail
        go_ret2
        rw [HE.out]
        exact ⟨_, rfl, HO2.out, hB.out⟩
set_option maxHeartbeats 4000000 in
theorem refencode (l : List Ia.Ins) (A : Option Addr) (c : Nat) (w : World) (hA : InsAt w A l) (hn : l.length ≤ 4611686018427387904) (hr : ∀ k (h : k < l.length), -2147483648 ≤ (l[k]'h).n ∧ (l[k]'h).n ≤ 2147483647) :
    Calls Try.prog 28 #[.slice A l.length c] w fun e w' => ∃ v, e = .returned (.tuple #[v, .int .i64 (encOf l).2]) ∧ w'.ownsRow w.heap.size 5 1 v (encOf l).1.length (bcells (encOf l).1) ∧ Below w.heap.size w w' := by
  have HA := Lib.hid hA
  have HR := Lib.hid hr
  clear hA hr
  obtain ⟨i0, hi, hi0, hi1, hi2⟩ := info_parts infoByte
  by_cases hbig : 600 < l.length
  · have HE := Lib.hid (encOf_big hbig)
    go_enter Try.func28, Try.ntmps28
    go_wp2_with fail
    go_ret2
    rw [HE.out]
    exact ⟨_, rfl, World.ownsRow_nil _ _ _ _, Below.refl _ _⟩
  · go_enter Try.func28, Try.ntmps28
    go_wp2_with fail
    go_loopw [4, 5] (fun v i wr => ∃ k : Nat, k ≤ l.length ∧ i = .int .i64 k ∧ Hid (Ia.wrong (l.take k) = 0) ∧ Hid (wr.ownsRow w.heap.size 5 1 v (Ia.encode (l.take k)).length (bcells (Ia.encode (l.take k)))) ∧ Hid (Below w.heap.size w wr)) (fun _ i _ => l.length - (intOf i).toNat)
    case atStart => exact ⟨0, Nat.zero_le _, rfl, rfl, World.ownsRow_nil _ _ _ _, Below.refl _ _⟩
    case round =>
      obtain ⟨k, hk, rfl, h0, hO, hB⟩ := hrel
      by_cases hlt : k < l.length
      · obtain ⟨b, off, rfl, c0, c1⟩ := HA.out.below hB.out (Nat.le_refl _) k hlt
        have hq := HR.out k hlt
        have HQ1 := Lib.hid hq.1
        have HQ2 := Lib.hid hq.2
        clear hq
        have hz := hB.out.size
        by_cases hrt : Ia.right (l[k]'hlt) = 0
        · have HW := Lib.hid (wrong_step l k hlt h0.out hrt)
          have HS := Lib.hid (encode_step l k hlt)
          have HBy := Lib.hid (fun W => refbytes_ok (l[k]'hlt) W hrt HQ1.out HQ2.out)
          have hel := encode_len (l.take k)
          have htl : (l.take k).length ≤ k := List.length_take_le _ _
          have HN := Lib.hid (show (Ia.bytesOf (l[k]'hlt)).length = 1 + Ia.form (l[k]'hlt).op by simp only [Ia.bytesOf, List.length_cons, Ia.le_length]; omega)
          have hfo := Ia.form_le (l[k]'hlt).op
          clear hrt h0
          generalize l[k]'hlt = ins at *
          generalize Ia.encode (l.take k) = pre at *
          have hpre : pre.length ≤ 3000 := by omega
          have hfo2 : 1 + Ia.form ins.op ≤ 5 := by omega
          clear hfo hel htl
          unfold insAgg at HBy
          go_wp2_with fail
          refine (HBy.out _).mono ?_
          rintro e w1 ⟨v1, rfl, hown1, hb1⟩
          obtain ⟨A1, c1', rfl⟩ := own_slice hown1
          have HO1 : Hid (Src w1 A1 (1 + Ia.form ins.op) c1' (bcells (Ia.bytesOf ins)) 1) := Src.of_own hown1
          have hbr : Below wr.heap.size wr w1 := hb1
          have HB1 := Lib.hid (hB.out.trans (hbr.mono hz))
          have HO2 := Lib.hid (own_below hO.out hbr)
          obtain ⟨Av, cv, rfl⟩ := own_slice HO2.out
          clear hown1 hb1 hbr
          go_wp2_with (at_builtin; refine wpList_app_any rfl (.tmp 28) (.tmp 29) 22 rfl w.heap.size 5 i0 (.int .u8 0) 1 1 Try.underlying22 hi hi0 hi1 hi2 rfl (by decide) (.slice Av pre.length cv) pre.length (bcells pre) rfl HO2.out A1 (1 + Ia.form ins.op) c1' (bcells (Ia.bytesOf ins)) rfl HO1.out (bcells_one _) ?c3 ?c4 HB1.out.size ?_)
          case c3 => unfold maxLen; omega
          case c4 => omega
          intro v2 w2 hown2 hg2
          have HB2 : Hid (Below w.heap.size w w2) := HB1.out.grown hg2 HB1.out.size (fun b hb => (HO2.out.lt b hb).1)
          have hown3 : w2.ownsRow w.heap.size 5 1 v2 (Ia.encode (l.take (k + 1))).length (bcells (Ia.encode (l.take (k + 1)))) := by
            rw [HS.out, bcells_append, List.length_append, HN.out]; exact hown2
          have HO3 := Lib.hid hown3
          clear hown2 hg2 hown3
          go_wp2_with fail
          go_roundw
          case rel => exact ⟨k + 1, by omega, by go_num, HW, HO3, HB2⟩
          case measure => simp [intOf]; omega
        · have HE := Lib.hid (encOf_bad hbig k hlt h0.out hrt)
          have HBy := Lib.hid (fun W => refbytes_bad (l[k]'hlt) W hrt)
          have hne : (Ia.right (l[k]'hlt) != 0) = true := by rw [bne_iff_ne]; exact hrt
          clear hrt h0 HQ1 HQ2
          generalize l[k]'hlt = ins at *
          generalize Ia.right ins = rt at *
          unfold insAgg at HBy
          go_wp2_with fail
          refine (HBy.out _).mono ?_
          rintro e w1 ⟨rfl, hb1⟩
          have hbr : Below wr.heap.size wr w1 := hb1
          have HB1 := Lib.hid (hB.out.trans (hbr.mono hz))
          clear hb1 hbr
          go_wp2_with fail
          go_ret2
          rw [HE.out]
          exact ⟨_, rfl, World.ownsRow_nil _ _ _ _, HB1.out⟩
      · obtain rfl : k = l.length := by omega
        have h1 := h0.out
        have h2 := hO.out
        rw [List.take_length] at h1 h2
        have HE := Lib.hid (encOf_ok hbig h1)
        have HO2 := Lib.hid h2
        clear h1 h2
        go_wp2_with fail
        go_ret2
        rw [HE.out]
        exact ⟨_, rfl, HO2.out, hB.out⟩
end Go.Proofs.Ytefnmpococnepaa
