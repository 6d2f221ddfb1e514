/-
  Images in plain Lean: what is read was laid down so, and what is laid down is read.
-/
import Derived.Test.YtjhopgmionpkoaaIm1
import Derived.Test.YtjhopgmionpkoaaOct1
namespace Go.Proofs.Ytjhopgmionpkoaa
set_option maxRecDepth 20000
open Go.RowKit Mem

theorem le_word {bs : Ia.Bs} {q wd : Nat} (h : q + wd ≤ bs.length) : Ia.le wd (word bs q wd) = (bs.drop q).take wd := by
  unfold word
  rw [if_pos h]
  have := Ia.le_unle ((bs.drop q).take wd)
  rwa [show ((bs.drop q).take wd).length = wd by rw [List.length_take, List.length_drop]; omega] at this
theorem take_join (bs : Ia.Bs) (p a b : Nat) : (bs.drop p).take a ++ (bs.drop (p + a)).take b = (bs.drop p).take (a + b) := by
  rw [List.take_add, List.drop_drop]
theorem run_join {bs : Ia.Bs} {p q : Nat} {x : Ia.Bs} (h : runAt bs p = some (x, q)) : runB x = (bs.drop p).take (q - p) ∧ p ≤ q ∧ q ≤ bs.length ∧ q = p + 2 + x.length ∧ x.length < 65536 := by
  unfold runAt at h
  split at h
  · rename_i h1
    injection h with h
    injection h with h2 h3
    subst h2 h3
    have hl : ((bs.drop (p + 2)).take (word bs p 2)).length = word bs p 2 := by rw [List.length_take, List.length_drop]; omega
    refine ⟨?_, by omega, h1, by rw [hl], by rw [hl]; have := word_lt bs p 2; omega⟩
    unfold runB
    rw [hl, le_word (by omega), take_join]
    congr 1
    omega
  · cases h
theorem bytes4_words : ∀ (n : Nat) (x : Ia.Bs), x.length = 4 * n → bytes4 (wordsN x) = x
  | 0, x, h => by have := List.eq_nil_of_length_eq_zero (by omega : x.length = 0); subst this; rfl
  | n + 1, [], h => by simp at h
  | n + 1, [_], h => by simp at h; omega
  | n + 1, [_, _], h => by simp at h; omega
  | n + 1, [_, _, _], h => by simp at h; omega
  | n + 1, a :: b :: c :: d :: r, h => by
    simp only [List.length_cons] at h
    have := Ia.le_unle [a, b, c, d]
    simp only [wordsN, bytes4]
    rw [bytes4_words n r (by omega)]
    simp only [List.length_cons, List.length_nil] at this
    rw [this]
    rfl
theorem words4_eq : ∀ x : Ia.Bs, words4 x = (wordsN x).map Ia.signedN
  | [] => rfl
  | [_] => rfl
  | [_, _] => rfl
  | [_, _, _] => rfl
  | a :: b :: c :: d :: r => by simp only [words4, wordsN, List.map_cons, words4_eq r]
theorem wordsN_lt_ : ∀ (bs : Ia.Bs), ∀ u ∈ wordsN bs, u < 4294967296
  | [], u, h => by simp [wordsN] at h
  | [_], u, h => by simp [wordsN] at h
  | [_, _], u, h => by simp [wordsN] at h
  | [_, _, _], u, h => by simp [wordsN] at h
  | a :: b :: c :: d :: r, u, h => by
    simp only [wordsN, List.mem_cons] at h
    rcases h with rfl | h
    · have := Ia.unle_lt [a, b, c, d]; simpa using this
    · exact wordsN_lt_ r u h
theorem plain_words (x : Ia.Bs) : (words4 x).map Ia.plainN = wordsN x := by
  rw [words4_eq, List.map_map]
  refine (List.map_congr_left (fun u hu => ?_)).trans (List.map_id _)
  exact Ia.plain_signed (wordsN_lt_ x u hu)
theorem words4_range (x : Ia.Bs) : ∀ n ∈ words4 x, -2147483648 ≤ n ∧ n ≤ 2147483647 := by
  intro n hn
  rw [words4_eq] at hn
  obtain ⟨u, hu, rfl⟩ := List.mem_map.1 hn
  exact Ia.signed_range (wordsN_lt_ x u hu)
theorem words4_len (x : Ia.Bs) (n : Nat) (h : x.length = 4 * n) : (words4 x).length = n := by rw [words4_eq, List.length_map, wordsN_len n x h]
/-- the numbers of an image, as they stand in bytes -/
theorem nums_imOf {bs x1 x2 x3 : Ia.Bs} (h : 21 ≤ bs.length) : numsB (imOf bs x1 x2 x3) = (bs.drop 4).take 17 := by
  unfold numsB imOf
  simp only [Int.toNat_natCast]
  rw [le_word (by omega), le_word (by omega), le_word (by omega), le_word (by omega), le_word (by omega), le_word (by omega), le_word (by omega), le_word (by omega), le_word (by omega)]
  rw [take_join bs 17 2 2, take_join bs 16 1 4, take_join bs 15 1 5, take_join bs 14 1 6, take_join bs 13 1 7, take_join bs 12 1 8, take_join bs 8 4 9, take_join bs 4 4 13]
theorem decode_fine {x : Ia.Bs} (h : (Ia.decode x).2.1 = 0) : Ia.encode (Ia.decode x).1 = x ∧ Ia.wrong (Ia.decode x).1 = 0 ∧ (Ia.decode x).1.length ≤ 600 ∧ ∀ i ∈ (Ia.decode x).1, InsOk i := by
  have hl := decode_len x
  rcases decode_only x with ⟨h1, _, h3, h4⟩ | ⟨h1, _⟩
  · unfold encOf at h3
    rw [if_neg (by omega)] at h3
    by_cases hw : Ia.wrong (Ia.decode x).1 ≠ 0
    · rw [if_pos hw] at h3; injection h3 with _ h5; exact absurd h5 hw
    · rw [if_neg hw] at h3; injection h3 with h5 _; exact ⟨h5, by omega, hl, h4⟩
  · exact absurd h h1
theorem word_small (bs : Ia.Bs) (q wd k : Nat) (h : 256 ^ wd ≤ k) : (0 : Int) ≤ (word bs q wd : Nat) ∧ ((word bs q wd : Nat) : Int) < k := by have := word_lt bs q wd; omega
theorem imOf_fits {bs x1 x2 x3 : Ia.Bs} (h1 : x1.length < 65536) (h2 : Ia.wrong (Ia.decode x2).1 = 0 ∧ (Ia.decode x2).1.length ≤ 600 ∧ ∀ i ∈ (Ia.decode x2).1, InsOk i) (h3 : Ia.wrong (Ia.decode x3).1 = 0 ∧ (Ia.decode x3).1.length ≤ 600 ∧ ∀ i ∈ (Ia.decode x3).1, InsOk i) : Fits (imOf bs x1 x2 x3) := by
  have hl : 4 * (words4 x1).length ≤ x1.length := by
    have key : ∀ x : Ia.Bs, 4 * (words4 x).length ≤ x.length := by
      intro x
      have : ∀ (n : Nat) (x : Ia.Bs), x.length ≤ n → 4 * (words4 x).length ≤ x.length := by
        intro n
        induction n with
        | zero => intro x hx; have := List.eq_nil_of_length_eq_zero (by omega : x.length = 0); subst this; simp [words4]
        | succ n ih =>
          intro x hx
          match x with
          | [] => simp [words4]
          | [_] => simp [words4]
          | [_, _] => simp [words4]
          | [_, _, _] => simp [words4]
          | a :: b :: c :: d :: r =>
            simp only [words4, List.length_cons] at hx ⊢
            have := ih r (by omega)
            omega
      exact this x.length x (Nat.le_refl _)
    exact key x1
  exact { ver := word_small bs 4 4 4294967296 (by decide), frm := word_small bs 8 4 4294967296 (by decide), first := words4_range x1, step := h2.2.2, move := h3.2.2, el := word_small bs 12 1 256 (by decide), sl := word_small bs 13 1 256 (by decide), nw := word_small bs 14 1 256 (by decide), is := word_small bs 15 1 256 (by decide), os := word_small bs 16 1 256 (by decide), sf := word_small bs 17 2 65536 (by decide), mf := word_small bs 19 2 65536 (by decide), fl := by show 4 * (words4 x1).length < 65536; omega, se := ⟨h2.1, h2.2.1⟩, me := ⟨h3.1, h3.2.1⟩ }
theorem rd_parts {bs : Ia.Bs} {m : Im} (h : rd bs = some m) : ∃ x1 p1 x2 p2 x3 p3, bs.take 4 = magic ∧ 21 ≤ bs.length ∧ runAt bs 21 = some (x1, p1) ∧ runAt bs p1 = some (x2, p2) ∧ runAt bs p2 = some (x3, p3) ∧ p3 = bs.length ∧ x1.length % 4 = 0 ∧ (Ia.decode x2).2.1 = 0 ∧ (Ia.decode x3).2.1 = 0 ∧ m = imOf bs x1 x2 x3 := by
  unfold rd at h
  split at h
  · rename_i h0
    split at h
    · cases h
    · rename_i x1 p1 h1
      split at h
      · cases h
      · rename_i x2 p2 h2
        split at h
        · cases h
        · rename_i x3 p3 h3
          split at h
          · rename_i h4
            injection h with h
            exact ⟨x1, p1, x2, p2, x3, p3, h0.1, h0.2, h1, h2, h3, h4.1, h4.2.1, h4.2.2.1, h4.2.2.2, h.symm⟩
          · cases h
  · cases h
/-- what is read was laid down so -/
theorem rd_only {bs : Ia.Bs} {m : Im} (h : rd bs = some m) : laidB m = bs ∧ Fits m ∧ rdL bs = m := by
  obtain ⟨x1, p1, x2, p2, x3, p3, h1, h2, r1, r2, r3, hp, h4, e2, e3, rfl⟩ := rd_parts h
  obtain ⟨j1, l1, _, q1, s1⟩ := run_join r1
  obtain ⟨j2, l2, _, q2, s2⟩ := run_join r2
  obtain ⟨j3, l3, _, q3, s3⟩ := run_join r3
  obtain ⟨a1, a2, a3, a4⟩ := decode_fine e2
  obtain ⟨b1, b2, b3, b4⟩ := decode_fine e3
  refine ⟨?_, imOf_fits s1 ⟨a2, a3, a4⟩ ⟨b2, b3, b4⟩, ?_⟩
  · unfold laidB
    rw [nums_imOf h2]
    have f1 : firstB (imOf bs x1 x2 x3).first = x1 := by
      unfold firstB imOf
      dsimp only
      rw [plain_words, bytes4_words (x1.length / 4) x1 (by omega)]
    have f2 : Ia.encode (imOf bs x1 x2 x3).step = x2 := a1
    have f3 : Ia.encode (imOf bs x1 x2 x3).move = x3 := b1
    rw [f1, f2, f3, j1, j2, j3, ← h1]
    have t3 : (bs.drop p1).take (p2 - p1) ++ (bs.drop p2).take (p3 - p2) = (bs.drop p1).take (p3 - p1) := by
      have := take_join bs p1 (p2 - p1) (p3 - p2)
      rw [show p1 + (p2 - p1) = p2 by omega, show p2 - p1 + (p3 - p2) = p3 - p1 by omega] at this
      exact this
    have t2 : (bs.drop 21).take (p1 - 21) ++ (bs.drop p1).take (p3 - p1) = (bs.drop 21).take (p3 - 21) := by
      have := take_join bs 21 (p1 - 21) (p3 - p1)
      rw [show 21 + (p1 - 21) = p1 by omega, show p1 - 21 + (p3 - p1) = p3 - 21 by omega] at this
      exact this
    have t1 : (bs.drop 4).take 17 ++ (bs.drop 21).take (p3 - 21) = (bs.drop 4).take (p3 - 4) := by
      have := take_join bs 4 17 (p3 - 21)
      rw [show 17 + (p3 - 21) = p3 - 4 by omega] at this
      exact this
    have t0 := take_join bs 0 4 (p3 - 4)
    rw [List.drop_zero, Nat.zero_add] at t0
    rw [t3, t2, t1, t0, hp]
    exact List.take_of_length_le (by omega)
  · unfold rdL runL
    rw [r1]
    simp only [Option.getD_some]
    rw [r2]
    simp only [Option.getD_some]
    rw [r3]
    rfl
theorem word_at {bs pre rest : Ia.Bs} {q wd n : Nat} (h : bs = pre ++ (Ia.le wd n ++ rest)) (hq : pre.length = q) (hn : n < 256 ^ wd) : word bs q wd = n := by
  subst h hq
  have hl := Ia.le_length wd n
  unfold word
  rw [if_pos (by rw [List.length_append, List.length_append, hl]; omega), List.drop_left, List.take_append_of_le_length (by omega), List.take_of_length_le (by omega), Ia.unle_le, Nat.mod_eq_of_lt hn]
theorem run_at {bs pre rest x : Ia.Bs} {p : Nat} (h : bs = pre ++ (runB x ++ rest)) (hp : pre.length = p) (hx : x.length < 65536) : runAt bs p = some (x, p + 2 + x.length) := by
  have hw : word bs p 2 = x.length := word_at (rest := x ++ rest) (by rw [h]; unfold runB; rw [List.append_assoc]) hp (by omega)
  unfold runAt
  rw [hw, if_pos (by rw [h, List.length_append, List.length_append, runB_length, hp]; omega)]
  congr 2
  rw [h, ← hp]
  have hl := Ia.le_length 2 x.length
  unfold runB
  rw [List.append_assoc, ← List.append_assoc, show pre.length + 2 = (pre ++ Ia.le 2 x.length).length by rw [List.length_append, hl], List.drop_left, List.take_left]
theorem signed_plain {n : Int} (h : -2147483648 ≤ n ∧ n ≤ 2147483647) : Ia.signedN (Ia.plainN n) = n := by
  unfold Ia.signedN Ia.plainN
  split <;> omega
theorem words4_first : ∀ l : List Int, (∀ n ∈ l, -2147483648 ≤ n ∧ n ≤ 2147483647) → words4 (firstB l) = l
  | [], _ => rfl
  | n :: r, h => by
    have hl : Ia.le 4 (Ia.plainN n) = [UInt8.ofNat (Ia.plainN n % 256), UInt8.ofNat (Ia.plainN n / 256 % 256), UInt8.ofNat (Ia.plainN n / 256 / 256 % 256), UInt8.ofNat (Ia.plainN n / 256 / 256 / 256 % 256)] := rfl
    have hu : Ia.unle (Ia.le 4 (Ia.plainN n)) = Ia.plainN n := by
      rw [Ia.unle_le, Nat.mod_eq_of_lt]
      unfold Ia.plainN
      omega
    have ih := words4_first r (fun m hm => h m (List.mem_cons_of_mem _ hm))
    show words4 (bytes4 ((n :: r).map Ia.plainN)) = _
    simp only [List.map_cons, bytes4]
    rw [hl] at hu ⊢
    simp only [List.cons_append, List.nil_append, words4]
    rw [hu, signed_plain (h n (by simp))]
    congr 1
theorem decode_laid {l : List Ia.Ins} (h : Ia.wrong l = 0 ∧ l.length ≤ 600) (ho : ∀ i ∈ l, InsOk i) : Ia.decode (Ia.encode l) = (l, 0, 0) := decode_back l h.1 ho h.2
theorem firstB_length (l : List Int) : (firstB l).length = 4 * l.length := by unfold firstB; rw [bytes4_length, List.length_map]
theorem numsB_length (m : Im) : (numsB m).length = 17 := by unfold numsB; simp only [List.length_append, Ia.le_length]
theorem laidB_length (m : Im) : (laidB m).length = 27 + 4 * m.first.length + (Ia.encode m.step).length + (Ia.encode m.move).length := by
  unfold laidB
  simp only [List.length_append, runB_length, firstB_length, numsB_length]
  show 4 + _ = _
  omega
/-- what is laid down is read -/
theorem rd_laid {m : Im} (hF : Fits m) (hol : m.fr.ol = m.fr.nw) : rd (laidB m) = some m := by
  have hs := encode_len m.step
  have hv := encode_len m.move
  have hse := hF.se.2
  have hme := hF.me.2
  have hfl := hF.fl
  have h0 : (laidB m).take 4 = magic := by unfold laidB; show List.take magic.length _ = magic; exact List.take_left
  have hlen := laidB_length m
  have r1 : runAt (laidB m) 21 = some (firstB m.first, 23 + 4 * m.first.length) := by
    have := run_at (bs := laidB m) (pre := magic ++ numsB m) (rest := runB (Ia.encode m.step) ++ runB (Ia.encode m.move)) (x := firstB m.first) (p := 21) (by unfold laidB; simp only [List.append_assoc]) (by rw [List.length_append, numsB_length]; rfl) (by rw [firstB_length]; omega)
    rw [this, firstB_length]
  have r2 : runAt (laidB m) (23 + 4 * m.first.length) = some (Ia.encode m.step, 25 + 4 * m.first.length + (Ia.encode m.step).length) := by
    have := run_at (bs := laidB m) (pre := magic ++ numsB m ++ runB (firstB m.first)) (rest := runB (Ia.encode m.move)) (x := Ia.encode m.step) (p := 23 + 4 * m.first.length) (by unfold laidB; simp only [List.append_assoc]) (by rw [List.length_append, List.length_append, numsB_length, runB_length, firstB_length]; show 4 + 17 + _ = _; omega) (by omega)
    rw [this]
    congr 2
    omega
  have r3 : runAt (laidB m) (25 + 4 * m.first.length + (Ia.encode m.step).length) = some (Ia.encode m.move, 27 + 4 * m.first.length + (Ia.encode m.step).length + (Ia.encode m.move).length) := by
    have := run_at (bs := laidB m) (pre := magic ++ numsB m ++ runB (firstB m.first) ++ runB (Ia.encode m.step)) (rest := []) (x := Ia.encode m.move) (p := 25 + 4 * m.first.length + (Ia.encode m.step).length) (by unfold laidB; simp only [List.append_assoc, List.append_nil]) (by rw [List.length_append, List.length_append, List.length_append, numsB_length, runB_length, runB_length, firstB_length]; show 4 + 17 + _ + _ = _; omega) (by omega)
    rw [this]
    congr 2
    omega
  have d2 := decode_laid hF.se hF.step
  have d3 := decode_laid hF.me hF.move
  have w0 : word (laidB m) 4 4 = m.ver.toNat := word_at (pre := magic) (by unfold laidB numsB; simp only [List.append_assoc]; rfl) rfl (by have := hF.ver; omega)
  have w1 : word (laidB m) 8 4 = m.frm.toNat := word_at (pre := magic ++ Ia.le 4 m.ver.toNat) (by unfold laidB numsB; simp only [List.append_assoc]; rfl) (by rw [List.length_append, Ia.le_length]; rfl) (by have := hF.frm; omega)
  have w2 : word (laidB m) 12 1 = m.el.toNat := word_at (pre := magic ++ Ia.le 4 m.ver.toNat ++ Ia.le 4 m.frm.toNat) (by unfold laidB numsB; simp only [List.append_assoc]; rfl) (by simp only [List.length_append, Ia.le_length]; rfl) (by have := hF.el; omega)
  have w3 : word (laidB m) 13 1 = m.fr.sl.toNat := word_at (pre := magic ++ Ia.le 4 m.ver.toNat ++ Ia.le 4 m.frm.toNat ++ Ia.le 1 m.el.toNat) (by unfold laidB numsB; simp only [List.append_assoc]; rfl) (by simp only [List.length_append, Ia.le_length]; rfl) (by have := hF.sl; omega)
  have w4 : word (laidB m) 14 1 = m.fr.nw.toNat := word_at (pre := magic ++ Ia.le 4 m.ver.toNat ++ Ia.le 4 m.frm.toNat ++ Ia.le 1 m.el.toNat ++ Ia.le 1 m.fr.sl.toNat) (by unfold laidB numsB; simp only [List.append_assoc]; rfl) (by simp only [List.length_append, Ia.le_length]; rfl) (by have := hF.nw; omega)
  have w5 : word (laidB m) 15 1 = m.fr.is.toNat := word_at (pre := magic ++ Ia.le 4 m.ver.toNat ++ Ia.le 4 m.frm.toNat ++ Ia.le 1 m.el.toNat ++ Ia.le 1 m.fr.sl.toNat ++ Ia.le 1 m.fr.nw.toNat) (by unfold laidB numsB; simp only [List.append_assoc]; rfl) (by simp only [List.length_append, Ia.le_length]; rfl) (by have := hF.is; omega)
  have w6 : word (laidB m) 16 1 = m.fr.os.toNat := word_at (pre := magic ++ Ia.le 4 m.ver.toNat ++ Ia.le 4 m.frm.toNat ++ Ia.le 1 m.el.toNat ++ Ia.le 1 m.fr.sl.toNat ++ Ia.le 1 m.fr.nw.toNat ++ Ia.le 1 m.fr.is.toNat) (by unfold laidB numsB; simp only [List.append_assoc]; rfl) (by simp only [List.length_append, Ia.le_length]; rfl) (by have := hF.os; omega)
  have w7 : word (laidB m) 17 2 = m.sf.toNat := word_at (pre := magic ++ Ia.le 4 m.ver.toNat ++ Ia.le 4 m.frm.toNat ++ Ia.le 1 m.el.toNat ++ Ia.le 1 m.fr.sl.toNat ++ Ia.le 1 m.fr.nw.toNat ++ Ia.le 1 m.fr.is.toNat ++ Ia.le 1 m.fr.os.toNat) (by unfold laidB numsB; simp only [List.append_assoc]; rfl) (by simp only [List.length_append, Ia.le_length]; rfl) (by have := hF.sf; omega)
  have w8 : word (laidB m) 19 2 = m.mf.toNat := word_at (pre := magic ++ Ia.le 4 m.ver.toNat ++ Ia.le 4 m.frm.toNat ++ Ia.le 1 m.el.toNat ++ Ia.le 1 m.fr.sl.toNat ++ Ia.le 1 m.fr.nw.toNat ++ Ia.le 1 m.fr.is.toNat ++ Ia.le 1 m.fr.os.toNat ++ Ia.le 2 m.sf.toNat) (by unfold laidB numsB; simp only [List.append_assoc]; rfl) (by simp only [List.length_append, Ia.le_length]; rfl) (by have := hF.mf; omega)
  unfold rd
  rw [if_pos ⟨h0, by omega⟩, r1]
  dsimp only
  rw [r2]
  dsimp only
  rw [r3]
  dsimp only
  rw [d2, d3, if_pos ⟨hlen.symm, by rw [firstB_length]; omega, rfl, rfl⟩]
  congr 1
  unfold imOf
  rw [d2, d3, w0, w1, w2, w3, w4, w5, w6, w7, w8, words4_first m.first hF.first]
  have f1 := hF.ver
  have f2 := hF.frm
  have f3 := hF.el
  have f4 := hF.sl
  have f5 := hF.nw
  have f6 := hF.is
  have f7 := hF.os
  have f8 := hF.sf
  have f9 := hF.mf
  obtain ⟨ver, frm, el, ⟨sl, ol, nw, is, os⟩, first, step, move, sf, mf⟩ := m
  dsimp only at *
  rw [Int.toNat_of_nonneg f1.1, Int.toNat_of_nonneg f2.1, Int.toNat_of_nonneg f3.1, Int.toNat_of_nonneg f4.1, Int.toNat_of_nonneg f5.1, Int.toNat_of_nonneg f6.1, Int.toNat_of_nonneg f7.1, Int.toNat_of_nonneg f8.1, Int.toNat_of_nonneg f9.1, hol]
theorem decode_any (x : Ia.Bs) : Ia.wrong (Ia.decode x).1 = 0 ∧ (Ia.decode x).1.length ≤ 600 ∧ ∀ i ∈ (Ia.decode x).1, InsOk i := by
  by_cases h : (Ia.decode x).2.1 = 0
  · exact (decode_fine h).2
  · rcases decode_only x with ⟨h1, _⟩ | ⟨_, h2, _⟩
    · exact absurd h1 h
    · rw [h2]; exact ⟨rfl, by simp, fun i hi => by cases hi⟩
theorem rdL_fits {bs : Ia.Bs} (h : bs.length ≤ 60000) : Fits (rdL bs) := by
  unfold rdL
  refine imOf_fits ?_ (decode_any _) (decode_any _)
  unfold runL runAt
  split
  · simp; omega
  · simp
theorem rd_of_laid {bs : Ia.Bs} (h : bs.length ≤ 60000) (hl : laidB (rdL bs) = bs) : rd bs = some (rdL bs) := by
  have := rd_laid (rdL_fits h) rfl
  rwa [hl] at this
/-- the image of bytes, or the error -/
def imParse (bs : Ia.Bs) : Im × Int :=
  if 2016 < bs.length then (Im.zero, 3) else match rd bs with
    | none => (Im.zero, 4)
    | some m => if chk m ≠ 0 then (Im.zero, chk m) else (m, 0)
theorem parse_ref {bs : Ia.Bs} (h : ¬ 2016 < bs.length) : imParse bs = if laidB (rdL bs) ≠ bs then (Im.zero, 4) else if chk (rdL bs) ≠ 0 then (Im.zero, chk (rdL bs)) else (rdL bs, 0) := by
  unfold imParse
  rw [if_neg h]
  by_cases hl : laidB (rdL bs) = bs
  · rw [if_neg (fun hh => hh hl), rd_of_laid (by omega) hl]
  · rw [if_pos hl]
    cases hr : rd bs with
    | none => rfl
    | some m =>
      obtain ⟨h1, _, h3⟩ := rd_only hr
      exact absurd (by rw [h3]; exact h1) hl
end Go.Proofs.Ytjhopgmionpkoaa
