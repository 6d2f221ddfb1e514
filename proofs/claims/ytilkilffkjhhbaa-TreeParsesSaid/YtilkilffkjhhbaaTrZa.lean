/-
  The reference's literal with fby behind it, in plain Lean: it is the program's.
-/
import Derived.Test.YtilkilffkjhhbaaTrPse
namespace Go.Proofs.Ytilkilffkjhhbaa
set_option maxRecDepth 20000
set_option linter.unusedVariables false
open Go.RowKit Tr Mem

section
variable {ts : List Lx.Tok}
theorem sees_past {s : St} (h : ts.length ≤ s.at_) (m : Lx.Bs) : sees ts s m = false := by
  rcases hq : sees ts s m with _ | _
  · rfl
  · have := (sees_lt hq).2; omega
theorem isKind_past {s : St} (h : ts.length ≤ s.at_) (k : Int) : isKind ts s k = false := by
  rcases hq : isKind ts s k with _ | _
  · rfl
  · have := (isKind_lt hq).2; omega
theorem name_past {s : St} (h : ts.length ≤ s.at_) : (Tr.name ts s).2.bad = true := by
  unfold Tr.name Tr.token
  rw [isKind_past h]; rfl
theorem atom_past {s : St} (h : ts.length ≤ s.at_) : (P ts .atom s).2.bad = true := by
  rw [P_atom, isKind_past h, sees_past h, sees_past h, sees_past h, sees_past h, sees_past h, if_neg (by decide), if_neg (by decide), if_neg (by decide), if_neg (by decide), if_neg (by decide), if_neg (by decide)]
  exact name_past h
theorem factor_past {s : St} (h : ts.length ≤ s.at_) : (P ts .factor s).2.bad = true := by
  rw [P_factor]
  exact P_bad _ (atom_past h)
theorem unary_past {s : St} (h : ts.length ≤ s.at_) : (P ts .unary s).2.bad = true := by
  rw [P_unary, sees_past h, sees_past h, if_neg (by decide), if_neg (by decide)]
  exact factor_past h
theorem level_past {s : St} (h : ts.length ≤ s.at_) : ∀ k n, n + k = 6 → (P ts (.level n) s).2.bad = true
  | 0, n, e => by
    obtain rfl : n = 6 := by omega
    rw [P_six]
    exact unary_past h
  | k + 1, n, e => by
    rw [P_level (by omega)]
    exact P_bad _ (level_past h k (n + 1) (by omega))
theorem expr_past {s : St} (h : ts.length ≤ s.at_) : (P ts .expr s).2.bad = true := by
  have h0 := level_past h 6 0 rfl
  rw [P_expr, sees_bad h0, if_neg (by decide)]
  exact h0
theorem floop_past {s : St} (h : ts.length ≤ s.at_) (x : Ex) : P ts (.floop x) s = (x, s) := by
  rw [P_floop, sees_past h, sees_past h, if_neg (by decide), if_neg (by decide)]
/-- one token alone, read as unary -/
theorem factor_one {s : St} (h : ts.length = s.at_ + 1) :
    P ts .factor s = if isKind ts s 2 = true then (.mk 1 (Tr.tok ts s).n [] [], s.adv) else if sees ts s wTrue = true then (.mk 2 1 [] [], s.adv) else if sees ts s wFalse = true then (.mk 2 0 [] [], s.adv) else P ts .factor s := by
  have hp : ∀ x, P ts (.floop x) s.adv = (x, s.adv) := fun x => floop_past (by rw [adv_at]; omega) x
  by_cases h0 : isKind ts s 2 = true
  · rw [if_pos h0, P_factor, P_atom, if_pos h0]
    exact hp _
  rw [if_neg h0]
  by_cases h1 : sees ts s wTrue = true
  · rw [if_pos h1, P_factor, P_atom, if_neg h0, if_pos h1]
    exact hp _
  rw [if_neg h1]
  by_cases h2 : sees ts s wFalse = true
  · rw [if_pos h2, P_factor, P_atom, if_neg h0, if_neg h1, if_pos h2]
    exact hp _
  rw [if_neg h2]
theorem factor_other {s : St} (h : ts.length = s.at_ + 1) (h0 : isKind ts s 2 = false) (h1 : sees ts s wTrue = false) (h2 : sees ts s wFalse = false) :
    (P ts .factor s).2.bad = true ∨ (P ts .factor s).1.kind = 3 := by
  have hadv : ts.length ≤ s.adv.at_ := by rw [adv_at]; omega
  rw [P_factor]
  by_cases hb : (P ts .atom s).2.bad = true
  · exact .inl (P_bad _ hb)
  rw [P_atom, h0, h1, h2, if_neg (by decide), if_neg (by decide), if_neg (by decide)] at hb ⊢
  by_cases h3 : sees ts s [40] = true
  · rw [if_pos h3] at hb
    exact absurd (need_bad (expr_past hadv) [41]) hb
  rw [if_neg h3] at hb ⊢
  by_cases h4 : sees ts s wIf = true
  · rw [if_pos h4] at hb
    exact absurd (P_bad .expr (need_bad (P_bad .expr (need_bad (expr_past hadv) wThen)) wElse)) hb
  rw [if_neg h4] at hb ⊢
  by_cases h5 : sees ts s wMerge = true
  · rw [if_pos h5] at hb
    exact absurd (P_bad .factor (P_bad .factor (name_past hadv))) hb
  rw [if_neg h5] at hb ⊢
  dsimp only at hb ⊢
  have hn := name_ok (ts := ts) (s := s) (by simpa using hb)
  rw [hn.2, floop_past hadv]
  exact .inr rfl
theorem unary_other {s : St} (h : ts.length = s.at_ + 1) (h0 : isKind ts s 2 = false) (h1 : sees ts s wTrue = false) (h2 : sees ts s wFalse = false) :
    (P ts .unary s).2.bad = true ∨ (P ts .unary s).1.kind = 3 := by
  have hadv : ts.length ≤ s.adv.at_ := by rw [adv_at]; omega
  rw [P_unary]
  by_cases h3 : sees ts s [45] = true
  · rw [if_pos h3]
    exact .inl (unary_past hadv)
  rw [if_neg h3]
  by_cases h4 : sees ts s wNot = true
  · rw [if_pos h4]
    exact .inl (unary_past hadv)
  rw [if_neg h4]
  exact factor_other h h0 h1 h2
theorem sees_txt {s : St} {m m' : Lx.Bs} (h : sees ts s m = true) (hm : (m == m') = false) : sees ts s m' = false := by
  rw [sees_cur, Bool.and_eq_true, Bool.and_eq_true] at h
  have e : (cur ts s).text = m := by simpa using h.2
  rw [sees_cur, e, hm, Bool.and_false]
theorem sees_num {s : St} (h : isKind ts s 2 = true) (m : Lx.Bs) : sees ts s m = false := by
  rw [isKind_cur, Bool.and_eq_true] at h
  have e : (cur ts s).kind = 2 := by simpa using h.2
  rw [sees_cur, e]
  simp
/-- without a minus or a not ahead, unary is factor -/
theorem unary_num {s : St} (h : isKind ts s 2 = true) : P ts .unary s = P ts .factor s := by
  rw [P_unary, sees_num h, sees_num h, if_neg (by decide), if_neg (by decide)]
theorem unary_word {s : St} {m : Lx.Bs} (h : sees ts s m = true) (h1 : (m == [45]) = false) (h2 : (m == wNot) = false) : P ts .unary s = P ts .factor s := by
  rw [P_unary, sees_txt h h1, sees_txt h h2, if_neg (by decide), if_neg (by decide)]
end
/-! the tokens up to a place -/
theorem take_get {ts : List Lx.Tok} {k j : Nat} (h : j < k) : (ts.take k)[j]? = ts[j]? := by
  rw [List.getElem?_take, if_pos h]
theorem sees_take {ts : List Lx.Tok} {s : St} {k : Nat} (h : s.at_ < k) (m : Lx.Bs) : sees (ts.take k) s m = sees ts s m := by unfold sees; rw [take_get h]
theorem isKind_take {ts : List Lx.Tok} {s : St} {k : Nat} (h : s.at_ < k) (m : Int) : isKind (ts.take k) s m = isKind ts s m := by unfold isKind; rw [take_get h]
theorem tok_take {ts : List Lx.Tok} {s : St} {k : Nat} (h : s.at_ < k) : Tr.tok (ts.take k) s = Tr.tok ts s := by unfold Tr.tok; rw [List.getD_eq_getElem?_getD, List.getD_eq_getElem?_getD, take_get h]
/-- fby stands at a place -/
def fbyAt (ts : List Lx.Tok) (k : Nat) : Bool :=
  match ts[k]? with
  | some t => t.kind == 3 && t.text == wFby
  | none => false
theorem sees_fby {ts : List Lx.Tok} (hok : ∀ t ∈ ts, TokOk t) {s : St} (hb : s.bad = false) : sees ts s wFby = fbyAt ts s.at_ := by
  unfold sees fbyAt
  rw [hb]
  rcases hq : ts[s.at_]? with _ | t
  · rfl
  · dsimp only
    obtain ⟨-, -, -, -, h4, -⟩ := hok t (List.mem_of_getElem? hq)
    by_cases hk : t.kind = 4
    · have hm := h4 hk
      by_cases ht : t.text = wFby
      · rw [ht] at hm; exact absurd hm (by decide)
      · have e : (t.text == wFby) = false := by simpa using ht
        rw [e, Bool.and_false, Bool.and_false]
    · have e : (t.kind == 4) = false := by simpa using hk
      rw [e, Bool.or_false]
theorem fbyAt_lt {ts : List Lx.Tok} {k : Nat} (h : fbyAt ts k = true) : k < ts.length := by
  unfold fbyAt at h
  split at h
  · rename_i t hq
    exact (List.getElem?_eq_some_iff.1 hq).1
  · cases h
/-- how many tokens ahead the reference looks -/
def rN (ts : List Lx.Tok) (s : St) : Nat := if sees ts s [45] then 2 else 1
/-- what the reference's equation reads ahead: in the tokens up to fby -/
def rQ (ts : List Lx.Tok) (s : St) : Ex × St := P (ts.take (s.at_ + rN ts s)) .unary s
def rOk (ts : List Lx.Tok) (s : St) : Bool := !(rQ ts s).2.bad && (rQ ts s).2.at_ == s.at_ + rN ts s && literal (rQ ts s).1
theorem literal_num {n : Int} (h1 : 0 ≤ n) (h2 : n ≤ 2147483647) : literal (.mk 1 n [] []) = true := by
  unfold literal right
  rw [size_eq, sizes_nil, depth_eq, depths_nil, formed_eq, formeds_nil]
  simp [Tr.shape, Tr.form, h1, h2, Ex.kind]
theorem literal_bool {n : Int} (h1 : 0 ≤ n) (h2 : n ≤ 1) : literal (.mk 2 n [] []) = true := by
  unfold literal right
  rw [size_eq, sizes_nil, depth_eq, depths_nil, formed_eq, formeds_nil]
  simp [Tr.shape, Tr.form, h1, h2, Ex.kind]
theorem literal_neg {n : Int} (h1 : 0 ≤ n) (h2 : n ≤ 2147483647) : literal (.mk 4 1 [] [.mk 1 n [] []]) = true := by
  unfold literal right
  rw [size_eq, sizes_cons, size_eq, sizes_nil, depth_eq, depths_cons, depth_eq, depths_nil, formed_eq, formeds_cons, formed_eq, formeds_nil]
  simp [Tr.shape, Tr.form, h1, h2, Ex.kind, Ex.n, Ex.sub]
theorem literal_kind {x : Ex} (h : x.kind ≠ 1) (h2 : x.kind ≠ 2) (h4 : x.kind ≠ 4) : literal x = false := by
  unfold literal
  have e1 : (x.kind == 1) = false := by simpa using h
  have e2 : (x.kind == 2) = false := by simpa using h2
  have e4 : (x.kind == 4) = false := by simpa using h4
  rw [e1, e2, e4]
  simp
theorem literal_neg_not {x : Ex} (h : x.kind ≠ 1) : literal (.mk 4 1 [] [x]) = false := by
  unfold literal
  have e1 : (x.kind == 1) = false := by simpa using h
  simp [Ex.kind, Ex.n, Ex.sub]
  intro _
  cases x
  simpa [Ex.kind] using h
theorem tok_ok {ts : List Lx.Tok} (hok : ∀ t ∈ ts, TokOk t) {s : St} (h : s.at_ < ts.length) : 0 ≤ (Tr.tok ts s).n ∧ (Tr.tok ts s).n ≤ 2147483647 := by
  have e : Tr.tok ts s = ts[s.at_]'h := by unfold Tr.tok; simp [h]
  rw [e]
  exact (hok _ (List.getElem_mem h)).1
/-- the program's look ahead is the reference's -/
theorem first_ref {ts : List Lx.Tok} (hok : ∀ t ∈ ts, TokOk t) {s : St} (hb : s.bad = false) :
    firstP ts s = if (fbyAt ts (s.at_ + rN ts s) && rOk ts s) = true then some ((rQ ts s).1, ⟨s.at_ + rN ts s + 1, false⟩) else none := by
  have lit : ∀ (s : St) (m : Bool) (x : Ex), s.bad = false → litP ts s m x = if fbyAt ts s.at_ = true then some (if m then .mk 4 1 [] [x] else x, s.adv) else none := fun s m x h => by
    unfold litP; rw [sees_fby hok h]
  have hadv : ∀ s : St, s.bad = false → s.adv.bad = false := fun s h => h
  by_cases hf : fbyAt ts (s.at_ + rN ts s) = true
  rotate_left
  · -- no fby there
    rw [if_neg (by intro h; rw [Bool.and_eq_true] at h; exact hf h.1)]
    unfold rN at hf
    unfold firstP
    by_cases h0 : sees ts s [45] = true
    · rw [if_pos h0] at hf ⊢
      split
      · rw [lit _ _ _ (hadv _ (hadv _ hb)), adv_at, adv_at, if_neg (by simpa [Nat.add_assoc] using hf)]
      · rfl
    · rw [if_neg h0] at hf ⊢
      have l1 : ∀ x, litP ts s.adv false x = none := fun x => by rw [lit _ _ _ (hadv _ hb), adv_at, if_neg hf]
      repeat' split
      all_goals first | exact l1 _ | rfl
  · have hlt := fbyAt_lt hf
    unfold rOk rQ
    by_cases h0 : sees ts s [45] = true
    · have e : rN ts s = 2 := by unfold rN; rw [if_pos h0]
      rw [e] at hf hlt ⊢
      rw [hf, Bool.true_and]
      unfold firstP
      rw [if_pos h0]
      have hlen : (ts.take (s.at_ + 2)).length = s.adv.at_ + 1 := by rw [List.length_take, adv_at]; omega
      have h0' : sees (ts.take (s.at_ + 2)) s [45] = true := by rw [sees_take (by omega)]; exact h0
      have hPU : P (ts.take (s.at_ + 2)) .unary s = (.mk 4 1 [] [(P (ts.take (s.at_ + 2)) .unary s.adv).1], (P (ts.take (s.at_ + 2)) .unary s.adv).2) := by rw [P_unary, if_pos h0']
      rw [hPU]
      by_cases hk : isKind ts s.adv 2 = true
      · have hk' : isKind (ts.take (s.at_ + 2)) s.adv 2 = true := by rw [isKind_take (by rw [adv_at]; omega)]; exact hk
        have hu : P (ts.take (s.at_ + 2)) .unary s.adv = (.mk 1 (Tr.tok ts s.adv).n [] [], s.adv.adv) := by
          rw [unary_num hk', factor_one hlen, if_pos hk', tok_take (by rw [adv_at]; omega)]
        have ht := tok_ok hok (isKind_lt hk).2
        rw [hu, if_pos hk, lit _ _ _ (hadv _ (hadv _ hb)), adv_at, adv_at, if_pos (by simpa [Nat.add_assoc] using hf)]
        dsimp only
        rw [literal_neg ht.1 ht.2, if_pos (by simp)]
        simp [St.adv, hb]
      · have hk' : isKind (ts.take (s.at_ + 2)) s.adv 2 = false := by rw [isKind_take (by rw [adv_at]; omega)]; simpa using hk
        rw [if_neg hk, if_neg]
        intro hc
        rw [Bool.and_eq_true, Bool.and_eq_true] at hc
        obtain ⟨⟨hc1, -⟩, hc3⟩ := hc
        dsimp only at hc1 hc3
        by_cases hu1 : (P (ts.take (s.at_ + 2)) .unary s.adv).1.kind = 1
        · -- a number stands there after all
          by_cases ht : sees (ts.take (s.at_ + 2)) s.adv wTrue = true
          · rw [unary_word ht (by decide) (by decide), factor_one hlen, if_neg (by rw [hk']; decide), if_pos ht] at hu1
            simp [Ex.kind] at hu1
          · by_cases ht2 : sees (ts.take (s.at_ + 2)) s.adv wFalse = true
            · rw [unary_word ht2 (by decide) (by decide), factor_one hlen, if_neg (by rw [hk']; decide), if_neg ht, if_pos ht2] at hu1
              simp [Ex.kind] at hu1
            · rcases unary_other hlen hk' (by simpa using ht) (by simpa using ht2) with hx | hx
              · rw [hx] at hc1; cases hc1
              · rw [hx] at hu1; exact absurd hu1 (by decide)
        · rw [literal_neg_not hu1] at hc3; cases hc3
    · have e : rN ts s = 1 := by unfold rN; rw [if_neg h0]
      rw [e] at hf hlt ⊢
      rw [hf, Bool.true_and]
      unfold firstP
      rw [if_neg h0]
      have hlen : (ts.take (s.at_ + 1)).length = s.at_ + 1 := by rw [List.length_take]; omega
      have hsee : ∀ m, sees (ts.take (s.at_ + 1)) s m = sees ts s m := fun m => sees_take (by omega) m
      have hkin : ∀ k, isKind (ts.take (s.at_ + 1)) s k = isKind ts s k := fun m => isKind_take (by omega) m
      have hl : ∀ x, litP ts s.adv false x = some (x, s.adv.adv) := fun x => by rw [lit _ _ _ (hadv _ hb), adv_at, if_pos hf]; rfl
      have hss : s.adv.adv = ⟨s.at_ + 1 + 1, false⟩ := by simp [St.adv, hb]
      by_cases hk : isKind ts s 2 = true
      · have hk' := (hkin 2).trans hk
        have hu : P (ts.take (s.at_ + 1)) .unary s = (.mk 1 (Tr.tok ts s).n [] [], s.adv) := by
          rw [unary_num hk', factor_one hlen, if_pos hk', tok_take (by omega)]
        have ht := tok_ok hok (isKind_lt hk).2
        rw [hu, if_pos hk, hl]
        dsimp only
        rw [literal_num ht.1 ht.2, if_pos (by simp [St.adv, hb]), hss]
      rw [if_neg hk]
      have hk' : isKind (ts.take (s.at_ + 1)) s 2 = false := (hkin 2).trans (by simpa using hk)
      by_cases h1 : sees ts s wTrue = true
      · have h1' := (hsee wTrue).trans h1
        have hu : P (ts.take (s.at_ + 1)) .unary s = (.mk 2 1 [] [], s.adv) := by
          rw [unary_word h1' (by decide) (by decide), factor_one hlen, if_neg (by rw [hk']; decide), if_pos h1']
        rw [hu, if_pos h1, hl]
        dsimp only
        rw [if_pos (by rw [literal_bool (n := 1) (by omega) (by omega)]; simp [St.adv, hb]), hss]
      rw [if_neg h1]
      have h1' : sees (ts.take (s.at_ + 1)) s wTrue = false := (hsee wTrue).trans (by simpa using h1)
      by_cases h2 : sees ts s wFalse = true
      · have h2' := (hsee wFalse).trans h2
        have hu : P (ts.take (s.at_ + 1)) .unary s = (.mk 2 0 [] [], s.adv) := by
          rw [unary_word h2' (by decide) (by decide), factor_one hlen, if_neg (by rw [hk']; decide), if_neg (by rw [h1']; decide), if_pos h2']
        rw [hu, if_pos h2, hl]
        dsimp only
        rw [if_pos (by rw [literal_bool (n := 0) (by omega) (by omega)]; simp [St.adv, hb]), hss]
      rw [if_neg h2]
      have h2' : sees (ts.take (s.at_ + 1)) s wFalse = false := (hsee wFalse).trans (by simpa using h2)
      rw [if_neg]
      intro hc
      rw [Bool.and_eq_true, Bool.and_eq_true] at hc
      obtain ⟨⟨hc1, -⟩, hc3⟩ := hc
      rcases unary_other hlen hk' h1' h2' with hx | hx
      · rw [hx] at hc1; cases hc1
      · rw [literal_kind (by rw [hx]; decide) (by rw [hx]; decide) (by rw [hx]; decide)] at hc3; cases hc3
end Go.Proofs.Ytilkilffkjhhbaa
