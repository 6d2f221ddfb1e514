/-
  The functions Text and Same over tokens.
-/
import Derived.Test.YtjgklpjmbogimaaLexI
namespace Go.Proofs.Ytjgklpjmbogimaa
open Go.RowKit
attribute [local go_sem] ex_take ex_drop ba_get

/-- the row of cells from an address on reads as these tokens -/
def TokAt (w : World) (A : Option Addr) (ts : List Lx.Tok) : Prop := ∀ k (h : k < ts.length), ∃ b off, A = some ⟨b, off, none⟩ ∧
  w.cell? ⟨b, off + k * 4, none⟩ = some (.int .i64 (ts[k]'h).kind) ∧ w.cell? ⟨b, off + k * 4 + 1, none⟩ = some (.string ⟨(ts[k]'h).text.toArray⟩) ∧
  w.cell? ⟨b, off + k * 4 + 2, none⟩ = some (.int .i32 (ts[k]'h).n) ∧ w.cell? ⟨b, off + k * 4 + 3, none⟩ = some (.int .i64 (ts[k]'h).at_)
theorem TokAt.below {w w' : World} {A : Option Addr} {ts : List Lx.Tok} {B : Nat} (h : TokAt w A ts) (hb : Below B w w') (hB : w.heap.size ≤ B ∨ ∀ b off s, A = some ⟨b, off, s⟩ → b < B) : TokAt w' A ts := by
  intro k hk
  obtain ⟨b, off, rfl, h0, h1, h2, h3⟩ := h k hk
  have hlt := World.block_lt_of_cell? _ _ h0
  have hbB : b < B := by
    rcases hB with hB | hB
    · exact Nat.lt_of_lt_of_le hlt hB
    · exact hB _ _ _ rfl
  exact ⟨b, off, rfl, (hb.cell (p := ⟨b, _, none⟩) hbB).trans h0, (hb.cell (p := ⟨b, _, none⟩) hbB).trans h1, (hb.cell (p := ⟨b, _, none⟩) hbB).trans h2, (hb.cell (p := ⟨b, _, none⟩) hbB).trans h3⟩
theorem toksCells_at : ∀ (ts : List Lx.Tok) (k : Nat) (h : k < ts.length), (toksCells ts)[k * 4]? = some (.int .i64 (ts[k]'h).kind) ∧ (toksCells ts)[k * 4 + 1]? = some (.string ⟨(ts[k]'h).text.toArray⟩) ∧
    (toksCells ts)[k * 4 + 2]? = some (.int .i32 (ts[k]'h).n) ∧ (toksCells ts)[k * 4 + 3]? = some (.int .i64 (ts[k]'h).at_)
  | [], k, h => by simp at h
  | t :: ts, 0, _ => by simp [toksCells, tokCells]
  | t :: ts, k + 1, h => by
    have ih := toksCells_at ts k (by simpa using h)
    have e : toksCells (t :: ts) = tokCells t ++ toksCells ts := by simp [toksCells]
    have l4 : (tokCells t).length = 4 := rfl
    have sh : ∀ j, (toksCells (t :: ts))[(k + 1) * 4 + j]? = (toksCells ts)[k * 4 + j]? := by
      intro j
      rw [e, List.getElem?_append_right (by rw [l4]; omega), l4]
      congr 1
      omega
    have s0 := sh 0
    simp only [Nat.add_zero] at s0
    rw [s0, sh 1, sh 2, sh 3]
    simpa using ih
theorem own_slice {w : World} {base : Nat} {e : TypeId} {size : Nat} {v : Value} {n : Nat} {xs : List Value} (h : w.ownsRow base e size v n xs) : ∃ A c, v = .slice A n c := by
  rcases h.2 with ⟨rfl, rfl⟩ | ⟨g, cap, cur, rfl, _⟩
  · exact ⟨_, _, rfl⟩
  · exact ⟨_, _, rfl⟩
theorem TokAt.of_own {w : World} {base c : Nat} {A : Option Addr} {ts : List Lx.Tok} {e : TypeId} (h : w.ownsRow base e 4 (.slice A ts.length c) ts.length (toksCells ts)) : TokAt w A ts := by
  intro k hk
  rcases h.2 with ⟨_, h2⟩ | ⟨g, cap, cur, hv, _, hg, hn, hc, hs, ht⟩
  · omega
  · injection hv with hv1 hv2 hv3
    subst hv1
    have hat : ∀ j u, (toksCells ts)[j]? = some u → w.cell? ⟨g, 0 + j, none⟩ = some u := by
      intro j u hu
      rw [Nat.zero_add]
      rw [cell_of_row w g j cur e (0, 0) hg]
      rw [← ht, List.getElem?_take] at hu
      split at hu
      · simpa using hu
      · cases hu
    obtain ⟨a0, a1, a2, a3⟩ := toksCells_at ts k hk
    exact ⟨g, 0, rfl, hat _ _ a0, hat _ _ a1, hat _ _ a2, hat _ _ a3⟩
theorem text_snoc : ∀ (l : List Lx.Tok) (t : Lx.Tok), Lx.text (l ++ [t]) = if l = [] then t.text else Lx.text l ++ ([32] ++ t.text)
  | [], t => rfl
  | [u], t => by rw [if_neg (by simp)]; simp [Lx.text]
  | u :: v :: l, t => by
    have ih := text_snoc (v :: l) t
    rw [if_neg (by simp)] at ih ⊢
    show u.text ++ [32] ++ Lx.text ((v :: l) ++ [t]) = u.text ++ [32] ++ Lx.text (v :: l) ++ ([32] ++ t.text)
    rw [ih]
    simp
theorem text_take (ts : List Lx.Tok) (k : Nat) (h : k < ts.length) : Lx.text (ts.take (k + 1)) = if k = 0 then (ts[k]'h).text else Lx.text (ts.take k) ++ ([32] ++ (ts[k]'h).text) := by
  rw [List.take_succ_eq_append_getElem h, text_snoc]
  congr 1
  rw [eq_iff_iff]
  constructor
  · intro e
    have := congrArg List.length e
    rw [List.length_take, List.length_nil] at this
    omega
  · rintro rfl; rfl
theorem text_take_le (ts : List Lx.Tok) : ∀ k, k ≤ ts.length → (Lx.text (ts.take k)).length ≤ (Lx.text ts).length := by
  have step : ∀ k, k < ts.length → (Lx.text (ts.take k)).length ≤ (Lx.text (ts.take (k + 1))).length := by
    intro k hk
    rw [text_take ts k hk]
    split
    · rename_i h; subst h; simp [Lx.text]
    · simp
  have key : ∀ d k, k + d = ts.length → (Lx.text (ts.take k)).length ≤ (Lx.text ts).length := by
    intro d
    induction d with
    | zero => intro k h; rw [List.take_of_length_le (by omega)]; exact Nat.le_refl _
    | succ d ih => intro k h; exact Nat.le_trans (step k (by omega)) (ih (k + 1) (by omega))
  intro k h
  exact key (ts.length - k) k (by omega)
theorem ba_append (a b : List UInt8) : (ByteArray.mk a.toArray) ++ (ByteArray.mk b.toArray) = ByteArray.mk (a ++ b).toArray := by
  apply ByteArray.ext
  simp [ByteArray.data_append]
theorem ba_sp (a : List UInt8) : (ByteArray.mk a.toArray) ++ (ByteArray.mk #[32]) = ByteArray.mk (a ++ [32]).toArray := ba_append a [32]
attribute [local go_sem] ba_append ba_sp
set_option maxHeartbeats 4000000 in
theorem lextext (ts : List Lx.Tok) (A : Option Addr) (c : Nat) (w : World) (hA : TokAt w A ts) (hn : ts.length ≤ 9223372036854775807) (hb : (Lx.text ts).length ≤ 4611686018427387904) :
    Calls Try.prog 17 #[.slice A ts.length c] w fun e w' => e = .returned (.string ⟨(Lx.text ts).toArray⟩) ∧ Below w.heap.size w w' := by
  have HA := Lib.hid hA
  clear hA
  go_enter Try.func17, Try.ntmps17
  go_wp2_with fail
  go_loopw [3, 8] (fun s i wr => ∃ k : Nat, k ≤ ts.length ∧ i = .int .i64 k ∧ s = .string ⟨(Lx.text (ts.take k)).toArray⟩ ∧ Below w.heap.size w wr) (fun _ i _ => ts.length - (intOf i).toNat)
  case atStart => exact ⟨0, Nat.zero_le _, rfl, rfl, Below.refl _ _⟩
  case round =>
    obtain ⟨k, hk, rfl, rfl, hbr⟩ := hrel
    by_cases hlt : k < ts.length
    · have hT := HA.out.below hbr (.inl (Nat.le_refl _))
      obtain ⟨b, off, rfl, c0, c1, c2, c3⟩ := hT k hlt
      have HTk := Lib.hid (text_take ts k hlt)
      have hle := text_take_le ts k hk
      have hle2 := text_take_le ts (k + 1) hlt
      rw [HTk.out] at hle2
      clear hT
      by_cases hk0 : k = 0
      · subst hk0
        rw [if_pos rfl] at hle2
        simp only [List.take_zero, Lx.text]
        simp only [Nat.zero_mul, Nat.add_zero] at c0 c1 c2 c3
        go_wp2_with fail
        go_roundw
        case rel => exact ⟨1, by omega, by go_num, by rw [HTk.out, if_pos rfl], hbr.alloc hbr.size _⟩
        case measure => simp [intOf]; omega
      · rw [if_neg hk0] at hle2
        have hle3 : (Lx.text (ts.take k)).length + 1 + ((ts[k]'hlt).text).length ≤ 4611686018427387904 := by
          rw [List.length_append, List.length_append] at hle2
          simp only [List.length_cons, List.length_nil] at hle2
          omega
        have hpos : 0 < k := by omega
        clear hle2
        generalize Lx.text (ts.take k) = s at *
        go_wp2_with fail
        go_roundw
        case rel => exact ⟨k + 1, by omega, by go_num, by rw [HTk.out, if_neg hk0]; simp, hbr.alloc hbr.size _⟩
        case measure => simp [intOf]; omega
    · obtain rfl : k = ts.length := by omega
      go_wp2_with fail
      go_ret
      rw [List.take_length]
      exact ⟨rfl, hbr⟩
set_option maxHeartbeats 4000000 in
theorem reftext (ts : List Lx.Tok) (A : Option Addr) (c : Nat) (w : World) (hA : TokAt w A ts) (hn : ts.length ≤ 9223372036854775807) (hb : (Lx.text ts).length ≤ 4611686018427387904) :
    Calls Try.prog 18 #[.slice A ts.length c] w fun e w' => e = .returned (.string ⟨(Lx.text ts).toArray⟩) ∧ w = w' := by
  have HA := Lib.hid hA
  clear hA
  go_enter Try.func18, Try.ntmps18
  go_wp2_with fail
  go_loop [3, 4] (fun s i => ∃ k : Nat, k ≤ ts.length ∧ i = .int .i64 k ∧ s = .string ⟨(Lx.text (ts.take k)).toArray⟩) (fun _ i => ts.length - (intOf i).toNat)
  case atStart => exact ⟨0, Nat.zero_le _, rfl, rfl⟩
  case round =>
    obtain ⟨k, hk, rfl, rfl⟩ := hrel
    by_cases hlt : k < ts.length
    · obtain ⟨b, off, rfl, c0, c1, c2, c3⟩ := HA.out k hlt
      have HTk := Lib.hid (text_take ts k hlt)
      have hle2 := text_take_le ts (k + 1) hlt
      rw [HTk.out] at hle2
      clear c0 c2 c3
      by_cases hk0 : k = 0
      · subst hk0
        rw [if_pos rfl] at hle2
        simp only [List.take_zero, Lx.text]
        simp only [Nat.zero_mul, Nat.add_zero] at c1
        go_wp2_with fail
        go_round
        case rel => exact ⟨1, by omega, by go_num, by rw [HTk.out, if_pos rfl]⟩
        case measure => simp [intOf]; omega
      · rw [if_neg hk0] at hle2
        have hle3 : (Lx.text (ts.take k)).length + 1 + ((ts[k]'hlt).text).length ≤ 4611686018427387904 := by
          rw [List.length_append, List.length_append] at hle2
          simp only [List.length_cons, List.length_nil] at hle2
          omega
        have hpos : 0 < k := by omega
        clear hle2
        generalize Lx.text (ts.take k) = s at *
        go_wp2_with fail
        go_round
        case rel => exact ⟨k + 1, by omega, by go_num, by rw [HTk.out, if_neg hk0]; simp⟩
        case measure => simp [intOf]; omega
    · obtain rfl : k = ts.length := by omega
      go_wp2_with fail
      go_ret
      exact ⟨rfl, rfl⟩
def tokEq (t u : Lx.Tok) : Bool := (t.kind == u.kind) && (t.text == u.text) && (t.n == u.n)
theorem sameToks_strip : ∀ ts us : List Lx.Tok, ts.map Lx.strip = us.map Lx.strip → ts.length = us.length ∧ ∀ k (h : k < ts.length) (h' : k < us.length), tokEq (ts[k]'h) (us[k]'h') = true
  | [], [], _ => ⟨rfl, fun k h => by simp at h⟩
  | [], u :: us, h => by simp at h
  | t :: ts, [], h => by simp at h
  | t :: ts, u :: us, h => by
    simp only [List.map_cons, List.cons.injEq] at h
    have ih := sameToks_strip ts us h.2
    refine ⟨by simp [ih.1], fun k hk hk' => ?_⟩
    cases k with
    | zero =>
      have h1 := congrArg Lx.Tok.kind h.1
      have h2 := congrArg Lx.Tok.text h.1
      have h3 := congrArg Lx.Tok.n h.1
      simp only [Lx.strip] at h1 h2 h3
      simp [tokEq, h1, h2, h3]
    | succ k => exact ih.2 k (by simpa using hk) (by simpa using hk')
set_option maxRecDepth 100000 in
set_option maxHeartbeats 4000000 in
theorem refsame (ts us : List Lx.Tok) (A A' : Option Addr) (c c' : Nat) (w : World) (hA : TokAt w A ts) (hA' : TokAt w A' us) (hn : ts.length ≤ 9223372036854775807) (hs : ts.map Lx.strip = us.map Lx.strip) :
    Calls Try.prog 16 #[.slice A ts.length c, .slice A' us.length c', .bool false] w fun e w' => e = .returned (.bool true) ∧ ∃ n, w' = w.drewN n := by
  obtain ⟨hl, hall⟩ := sameToks_strip ts us hs
  have HA := Lib.hid hA
  have HA' := Lib.hid hA'
  have HALL := Lib.hid hall
  clear hA hA' hall hs
  rw [← hl]
  have HLN := Lib.hid hl
  clear hl
  have hne : ((ts.length : Int) != (ts.length : Int)) = false := by simp
  go_enter Try.func16, Try.ntmps16
  go_wp2_with fail
  go_loopw [7] (fun i wr => ∃ k : Nat, k ≤ ts.length ∧ i = .int .i64 k ∧ ∃ n, wr = w.drewN n) (fun i _ => ts.length - (intOf i).toNat)
  case atStart => exact ⟨0, Nat.zero_le _, rfl, 0, rfl⟩
  case round =>
    obtain ⟨k, hk, rfl, n, rfl⟩ := hrel
    by_cases hlt : k < ts.length
    · obtain ⟨b, off, rfl, c0, c1, c2, c3⟩ := HA.out k hlt
      have hlt' : k < us.length := by have := HLN.out; omega
      obtain ⟨b', off', rfl, d0, d1, d2, d3⟩ := HA'.out k hlt'
      have hte := HALL.out k hlt hlt'
      unfold tokEq at hte
      simp only [Bool.and_eq_true] at hte
      obtain ⟨⟨e1, e2⟩, e3⟩ := hte
      have f1 : ((ts[k]'hlt).kind != (us[k]'hlt').kind) = false := by simpa using e1
      have f2 : ((ts[k]'hlt).text == (us[k]'hlt').text) = true := e2
      have f3 : ((ts[k]'hlt).n != (us[k]'hlt').n) = false := by simpa using e3
      clear e1 e2 e3 c3 d3
      generalize ts[k]'hlt = t at *
      generalize us[k]'hlt' = u at *
      go_wp2_with fail
      go_quiet (fail)
      go_wp2_with fail
      go_roundw
      case rel => exact ⟨k + 1, by omega, by go_num, _, rfl⟩
      case measure => simp [intOf]; omega
    · obtain rfl : k = ts.length := by omega
      go_wp2_with fail
      go_ret
      exact ⟨rfl, _, rfl⟩
theorem text_cons_le (t : Lx.Tok) (r : List Lx.Tok) : (Lx.text (t :: r)).length ≤ t.text.length + 1 + (Lx.text r).length := by
  rw [Lx.text_cons]; split
  · omega
  · simp; omega
theorem scanL_size (N : Nat) : ∀ (n : Nat) (l : List UInt8), l.length < n → (Lx.text (Lx.scanL N l).1).length ≤ 2 * l.length ∧ (Lx.scanL N l).1.length ≤ l.length := by
  intro n
  induction n with
  | zero => intro l h; omega
  | succ n ih =>
    intro l h
    by_cases hl : l = []
    · subst hl; rw [Lx.scanL_nil]; simp [Lx.text]
    · by_cases he : (Lx.next l).2 = 0
      · have ht := Lx.next_text hl he
        have hp := Lx.pass_len (l.drop (Lx.next l).1.text.length)
        rw [List.length_drop] at hp
        have i := ih (Lx.pass (l.drop (Lx.next l).1.text.length)) (by omega)
        rw [Lx.scanL_good _ hl he]
        split
        · simp [Lx.text]
        · have := text_cons_le { (Lx.next l).1 with at_ := (N : Int) - l.length } (Lx.scanL N (Lx.pass (l.drop (Lx.next l).1.text.length))).1
          simp only [List.length_cons] at this ⊢
          omega
      · rw [Lx.scanL_bad _ hl he]; simp [Lx.text]
theorem scan_size (s : List UInt8) : (Lx.text (Lx.scan s).1).length ≤ 2 * s.length ∧ (Lx.scan s).1.length ≤ s.length := by
  by_cases h : 4096 < s.length
  · rw [Lx.scan_big h]; simp [Lx.text]
  · rw [Lx.scan_small (by omega)]
    have := scanL_size s.length _ (Lx.pass s) (Nat.lt_succ_self _)
    have := Lx.pass_len s
    omega
end Go.Proofs.Ytjgklpjmbogimaa
