/-
  What holds while an image is read.
-/
import Derived.Test.YtjhopgmionpkoaaIm4
import Derived.Test.YtjhopgmionpkoaaImH
import Derived.Test.YtjhopgmionpkoaaIm3
import Derived.Test.YtjhopgmionpkoaaOct1
import Derived.Test.YtjhopgmionpkoaaCells
import Derived.Test.YtjhopgmionpkoaaImLaw
namespace Go.Proofs.Ytjhopgmionpkoaa
set_option maxRecDepth 20000
open Go.RowKit Mem

/-- the slices of an image lie in new memory -/
structure ImNew (B : Nat) (w : World) (m : Im) (A1 A2 A3 : Option Addr) (c1 c2 c3 : Nat) : Prop where
  first : w.ownsRow B 21 1 (.slice A1 m.first.length c1) m.first.length (m.first.map fun n => .int .i32 n)
  step : w.ownsRow B 67 2 (.slice A2 m.step.length c2) m.step.length (insCells m.step)
  move : w.ownsRow B 67 2 (.slice A3 m.move.length c3) m.move.length (insCells m.move)
theorem ImNew.at_ {B : Nat} {w : World} {m : Im} {A1 A2 A3 : Option Addr} {c1 c2 c3 : Nat} (h : ImNew B w m A1 A2 A3 c1 c2 c3) : ImAt w m A1 A2 A3 c1 c2 c3 := ⟨Src.of_own h.first, Src.of_own h.step, Src.of_own h.move⟩
theorem ImNew.below {B : Nat} {w w' : World} {m : Im} {A1 A2 A3 : Option Addr} {c1 c2 c3 : Nat} (h : ImNew B w m A1 A2 A3 c1 c2 c3) (hb : Below w.heap.size w w') : ImNew B w' m A1 A2 A3 c1 c2 c3 := ⟨own_below h.first hb, own_below h.step hb, own_below h.move hb⟩
theorem ImNew.base {B B' : Nat} {w : World} {m : Im} {A1 A2 A3 : Option Addr} {c1 c2 c3 : Nat} (h : ImNew B w m A1 A2 A3 c1 c2 c3) (hb : B' ≤ B) : ImNew B' w m A1 A2 A3 c1 c2 c3 := ⟨own_base h.first hb, own_base h.step hb, own_base h.move hb⟩
def ReadPost (bs : Ia.Bs) (w : World) (e : Ending) (w' : World) : Prop :=
  (∃ m A1 A2 A3 c1 c2 c3, rd bs = some m ∧ e = .returned (.tuple #[imAgg m A1 A2 A3 c1 c2 c3, .bool true]) ∧ ImNew w.heap.size w' m A1 A2 A3 c1 c2 c3 ∧ Below w.heap.size w w') ∨
  (rd bs = none ∧ ∃ m A1 A2 A3 c1 c2 c3, e = .returned (.tuple #[imAgg m A1 A2 A3 c1 c2 c3, .bool false]) ∧ Below w.heap.size w w')
/-- what holds while an image is read -/
structure IS (w W : World) (ga gk gm : Nat) (A : Option Addr) (c : Nat) (bs : Ia.Bs) (q : Nat) (b : Bool) (row : Array Value) : Prop where
  rd : RdS W w.heap.size ga gk A c bs q b
  im : W.heap[gm]? = some (.cells row 28 (0, 0))
  rs : W.heap[w.heap.size + 1]? = some (.cells #[.int .u32 0, .int .u32 0, .int .i64 0, .int .i64 0, .int .i64 0, .int .i64 0, .int .i64 0, .int .i64 0, .slice none 0 0, .slice none 0 0, .slice none 0 0, .int .i64 0, .int .i64 0] 28 (0, 0))
  bel : Below w.heap.size w W
  lo : w.heap.size < ga ∧ w.heap.size < gk ∧ w.heap.size + 1 < gm ∧ gm ≠ ga ∧ gm ≠ gk ∧ ga ≠ w.heap.size + 1 ∧ gk ≠ w.heap.size + 1
  old : ∀ b o s, A = some ⟨b, o, s⟩ → b < w.heap.size
theorem IS.k2 {w W W' : World} {ga gk gm : Nat} {A : Option Addr} {c : Nat} {bs : Ia.Bs} {q q' : Nat} {b b' : Bool} {row : Array Value} (h : IS w W ga gk gm A c bs q b row) (hr : RdS W' w.heap.size ga gk A c bs q' b') (hk : K2 ga gk W W') : IS w W' ga gk gm A c bs q' b' row := by
  have hl := h.lo
  exact { rd := hr, im := hk.row h.im (by omega) (by omega), rs := hk.row h.rs (by omega) (by omega), bel := h.bel.trans (hk.below (by omega) (by omega) h.bel.size), lo := h.lo, old := h.old }
theorem IS.below {w W W' : World} {ga gk gm : Nat} {A : Option Addr} {c : Nat} {bs : Ia.Bs} {q : Nat} {b : Bool} {row : Array Value} (h : IS w W ga gk gm A c bs q b row) (hb : Below W.heap.size W W') : IS w W' ga gk gm A c bs q b row :=
  { rd := h.rd.below hb, im := (hb.block _ (Array.getElem?_eq_some_iff.1 h.im).1).trans h.im, rs := (hb.block _ (Array.getElem?_eq_some_iff.1 h.rs).1).trans h.rs, bel := h.bel.trans (hb.mono h.bel.size), lo := h.lo, old := h.old }
theorem bytes_other {w w' : World} {A : Option Addr} {bs : Ia.Bs} {gm : Nat} (h : BytesAt w A bs) (hg : w.grownBy w' (some gm)) (n4 : ∀ b o s, A = some ⟨b, o, s⟩ → b ≠ gm) : BytesAt w' A bs := by
  intro k hk
  obtain ⟨b, off, e, hc⟩ := h k hk
  refine ⟨b, off, e, ?_⟩
  rw [World.grownBy.cell_far hg ⟨b, off + k, none⟩ (World.block_lt_of_cell? _ _ hc) (by simpa using n4 b off none e)]
  exact hc
theorem ret_im {fn : Func} {R : Ending → World → Prop} {a : Act} {W : World} {g : Nat} {cs : Array Value} {v : Value} (p u : Nat) (hr : fn.results = #[.cell p 28, .tmp u]) (hp : a.tmps.getD p undef = .pointer (some ⟨g, 0, none⟩)) (hv : a.tmps.getD u undef = v) (hd : a.defers = [])
    (hg : W.heap[g]? = some (.cells cs 28 (0, 0))) (hs : cs.size = 13) (hR : R (.returned (.tuple #[.agg cs, v])) W) : bodyPost Try.prog fn R .ret a W :=
  bodyPost_ret (results_row_tmp (P := Try.prog) hr _ _ g _ cs _ _ _ hp hg Try.underlying28 rfl (by rw [infoImS, hs]) hv) hd hR
theorem RdS.other {w w' : World} {gb ga gk gm : Nat} {A : Option Addr} {c : Nat} {bs : Ia.Bs} {q : Nat} {b : Bool} (h : RdS w gb ga gk A c bs q b) (hg : w.grownBy w' (some gm)) (n1 : gm ≠ gb) (n2 : gm ≠ ga) (n3 : gm ≠ gk) (n4 : ∀ b o s, A = some ⟨b, o, s⟩ → b ≠ gm) : RdS w' gb ga gk A c bs q b :=
  { h with rb := other_by hg n1.symm h.rb, ra := other_by hg n2.symm h.ra, rk := other_by hg n3.symm h.rk, at_ := bytes_other h.at_ hg n4 }
theorem IS.set {w W : World} {ga gk gm : Nat} {A : Option Addr} {c : Nat} {bs : Ia.Bs} {q : Nat} {b : Bool} {row : Array Value} (h : IS w W ga gk gm A c bs q b row) (j : Nat) (v : Value) : IS w (W.setCell ⟨gm, j, none⟩ v) ga gk gm A c bs q b (row.setIfInBounds j v) := by
  have hl := h.lo
  have hg := grown_setCell W gm j v
  exact { rd := h.rd.other hg (by omega) (by omega) (by omega) (fun b o s e => by have := h.old b o s e; omega), im := heap_setCell_same _ gm j _ _ v h.im, rs := other_by hg (by omega) h.rs, bel := h.bel.setCell (by dsimp only; omega) _, lo := h.lo, old := h.old }
theorem iget {w W : World} {ga gk gm : Nat} {A : Option Addr} {c : Nat} {bs : Ia.Bs} {q : Nat} {b : Bool} {row : Array Value} (h : IS w W ga gk gm A c bs q b row) (wd : Nat) (h1 : 1 ≤ wd) (h4 : wd ≤ 4) :
    Calls Try.prog 62 #[.int .i64 wd, .pointer (some ⟨w.heap.size, 0, none⟩), .pointer (some ⟨ga, 0, none⟩), .pointer (some ⟨gk, 0, none⟩)] W fun e w' => e = .returned (.int .i64 (word bs q wd : Nat)) ∧ IS w w' ga gk gm A c bs (nxq bs q wd) (nxb bs q wd b) row :=
  (rdget W _ ga gk A c bs q wd b h.rd h1 h4).mono fun _ _ ⟨h1, h2, h3⟩ => ⟨h1, h.k2 h2 h3⟩
def IRun (w : World) (ga gk gm : Nat) (A : Option Addr) (c : Nat) (bs : Ia.Bs) (q' : Nat) (b' : Bool) (row : Array Value) (x : Ia.Bs) (W : World) (e : Ending) (w' : World) : Prop :=
  ∃ A' c', e = .returned (.slice A' x.length c') ∧ BSrc w' A' c' x ∧ (∀ b o s, A' = some ⟨b, o, s⟩ → W.heap.size ≤ b) ∧ IS w w' ga gk gm A c bs q' b' row ∧ K2 ga gk W w'
theorem irun {w W : World} {ga gk gm : Nat} {A : Option Addr} {c : Nat} {bs : Ia.Bs} {q : Nat} {b : Bool} {row : Array Value} (h : IS w W ga gk gm A c bs q b row) :
    Calls Try.prog 64 #[.pointer (some ⟨w.heap.size, 0, none⟩), .pointer (some ⟨ga, 0, none⟩), .pointer (some ⟨gk, 0, none⟩)] W (IRun w ga gk gm A c bs (rnq bs q) (rnb bs q b) row (rnv bs q) W) :=
  (rdrun W _ ga gk A c bs q b h.rd).mono fun _ _ ⟨A', c', h1, h2, h3, h4, h5⟩ => ⟨A', c', h1, h2, h3, h.k2 h4 h5, h5⟩
theorem src_k2 {w w' : World} {A : Option Addr} {m c size ga gk : Nat} {news : List Value} (h : Src w A m c news size) (hk : K2 ga gk w w') (hn : ∀ b o s, A = some ⟨b, o, s⟩ → b ≠ ga ∧ b ≠ gk) : Src w' A m c news size :=
  ⟨h.len, h.none, fun ad ha j u hu => by
    have hc := h.some ad ha j u hu
    have hlt := World.block_lt_of_cell? _ _ hc
    obtain ⟨b, o, s⟩ := ad
    have hne := hn b o s ha
    have e : ((⟨b, o, s⟩ : Addr).add j).block = b := by unfold Addr.add; split <;> rfl
    rw [e] at hlt
    have hh := hk.block b hlt hne.1 hne.2
    unfold World.cell? at hc ⊢
    rw [e] at hc ⊢
    rw [hh]
    exact hc⟩
theorem nx_ok {bs : Ia.Bs} {q wd : Nat} {b : Bool} (h : q + wd ≤ bs.length) : nxq bs q wd = q + wd ∧ nxb bs q wd b = b := by
  unfold nxq nxb; rw [if_pos h, decide_eq_true h, Bool.and_true]; exact ⟨rfl, rfl⟩
theorem iget_ok {w W : World} {ga gk gm : Nat} {A : Option Addr} {c : Nat} {bs : Ia.Bs} {q : Nat} {b : Bool} {row : Array Value} (h : IS w W ga gk gm A c bs q b row) (wd q' : Nat) (h1 : 1 ≤ wd) (h4 : wd ≤ 4) (hq : q + wd = q') (hl : q' ≤ bs.length) :
    Calls Try.prog 62 #[.int .i64 wd, .pointer (some ⟨w.heap.size, 0, none⟩), .pointer (some ⟨ga, 0, none⟩), .pointer (some ⟨gk, 0, none⟩)] W fun e w' => ∃ n : Nat, n = word bs q wd ∧ (n : Int) ≤ 4294967295 ∧ e = .returned (.int .i64 n) ∧ IS w w' ga gk gm A c bs q' b row := by
  subst hq
  have hlt : (word bs q wd : Int) ≤ 4294967295 := by
    have h2 := word_lt bs q wd
    have h3 : (256 : Nat) ^ wd ≤ 256 ^ 4 := Nat.pow_le_pow_right (by omega) h4
    omega
  refine (iget h wd h1 h4).mono ?_
  rintro e w' ⟨he, hs⟩
  rw [(nx_ok (b := b) hl).1, (nx_ok hl).2] at hs
  exact ⟨_, rfl, hlt, he, hs⟩
theorem iget_any {w W : World} {ga gk gm : Nat} {A : Option Addr} {c : Nat} {bs : Ia.Bs} {q : Nat} {b : Bool} {row : Array Value} (h : IS w W ga gk gm A c bs q b row) (wd : Nat) (h1 : 1 ≤ wd) (h4 : wd ≤ 4) :
    Calls Try.prog 62 #[.int .i64 wd, .pointer (some ⟨w.heap.size, 0, none⟩), .pointer (some ⟨ga, 0, none⟩), .pointer (some ⟨gk, 0, none⟩)] W fun e w' => ∃ (n q' : Nat) (b' : Bool), q' = nxq bs q wd ∧ b' = nxb bs q wd b ∧ (n : Int) ≤ 4294967295 ∧ e = .returned (.int .i64 n) ∧ IS w w' ga gk gm A c bs q' b' row := by
  have hlt : (word bs q wd : Int) ≤ 4294967295 := by
    have h2 := word_lt bs q wd
    have h3 : (256 : Nat) ^ wd ≤ 256 ^ 4 := Nat.pow_le_pow_right (by omega) h4
    omega
  refine (iget h wd h1 h4).mono ?_
  rintro e w' ⟨he, hs⟩
  exact ⟨_, _, _, rfl, rfl, hlt, he, hs⟩
def stB (bs : Ia.Bs) : List Nat → Nat → Bool → Bool
  | [], _, b => b
  | wd :: r, q, b => stB bs r (nxq bs q wd) (nxb bs q wd b)
theorem stB_true {bs : Ia.Bs} : ∀ (l : List Nat) (q : Nat) (b : Bool), stB bs l q b = true → b = true ∧ (l = [] ∨ q + l.sum ≤ bs.length)
  | [], _, _, h => ⟨h, .inl rfl⟩
  | wd :: r, q, b, h => by
    obtain ⟨h1, h2⟩ := stB_true r _ _ h
    unfold nxb at h1
    rw [Bool.and_eq_true, decide_eq_true_eq] at h1
    obtain ⟨h3, h4⟩ := h1
    refine ⟨h3, .inr ?_⟩
    rw [List.sum_cons]
    rcases h2 with rfl | h2
    · simpa using h4
    · rw [(nx_ok (b := b) h4).1] at h2; omega
theorem rd_eq {bs : Ia.Bs} (hm : bs.take 4 = magic) (h21 : 21 ≤ bs.length) :
    rd bs = if rnb bs (rnq bs (rnq bs 21)) (rnb bs (rnq bs 21) (rnb bs 21 true)) = true ∧ rnq bs (rnq bs (rnq bs 21)) = bs.length ∧ (rnv bs 21).length % 4 = 0 ∧ (Ia.decode (rnv bs (rnq bs 21))).2.1 = 0 ∧ (Ia.decode (rnv bs (rnq bs (rnq bs 21)))).2.1 = 0 then some (imOf bs (rnv bs 21) (rnv bs (rnq bs 21)) (rnv bs (rnq bs (rnq bs 21)))) else none := by
  unfold rd
  rw [if_pos ⟨hm, h21⟩]
  cases h1 : runAt bs 21 with
  | none => rw [if_neg (fun h => by have := h.1; simp [rnb, h1] at this)]
  | some r1 =>
    obtain ⟨x1, p1⟩ := r1
    have e1 : rnq bs 21 = p1 := by unfold rnq; rw [h1]; rfl
    have f1 : rnv bs 21 = x1 := by unfold rnv; rw [h1]; rfl
    have g1 : ∀ b, rnb bs 21 b = b := fun b => by unfold rnb; rw [h1]; simp
    rw [e1, f1, g1]
    dsimp only
    cases h2 : runAt bs p1 with
    | none => rw [if_neg (fun h => by have := h.1; simp [rnb, h2] at this)]
    | some r2 =>
      obtain ⟨x2, p2⟩ := r2
      have e2 : rnq bs p1 = p2 := by unfold rnq; rw [h2]; rfl
      have f2 : rnv bs p1 = x2 := by unfold rnv; rw [h2]; rfl
      have g2 : ∀ b, rnb bs p1 b = b := fun b => by unfold rnb; rw [h2]; simp
      rw [e2, f2, g2]
      dsimp only
      cases h3 : runAt bs p2 with
      | none => rw [if_neg (fun h => by have := h.1; simp [rnb, h3] at this)]
      | some r3 =>
        obtain ⟨x3, p3⟩ := r3
        have e3 : rnq bs p2 = p3 := by unfold rnq; rw [h3]; rfl
        have f3 : rnv bs p2 = x3 := by unfold rnv; rw [h3]; rfl
        have g3 : ∀ b, rnb bs p2 b = b := fun b => by unfold rnb; rw [h3]; simp
        rw [e3, f3, g3]
        dsimp only
        by_cases hc : p3 = bs.length ∧ x1.length % 4 = 0 ∧ (Ia.decode x2).2.1 = 0 ∧ (Ia.decode x3).2.1 = 0
        · rw [if_pos hc, if_pos ⟨rfl, hc⟩]
        · rw [if_neg hc, if_neg (fun h => hc h.2)]
theorem zrow_one : (#[.int .u32 0, .int .u32 0, .int .i64 0, .int .i64 0, .int .i64 0, .int .i64 0, .int .i64 0, .int .i64 0, .slice none 0 0, .slice none 0 0, .slice none 0 0, .int .i64 0, .int .i64 0] : Array Value).all (·.oneCell') = true := by simp [Value.oneCell']
theorem rnv_len (bs : Ia.Bs) (q : Nat) (h : bs.length ≤ 1000000) : (rnv bs q).length ≤ 1000000 := by
  unfold rnv runAt
  split
  · simp; omega
  · simp
theorem rnv_small (bs : Ia.Bs) (q : Nat) : (rnv bs q).length ≤ 65536 := by
  unfold rnv runAt
  have := word_lt bs q 2
  split
  · simp; omega
  · simp
def icells (l : List Int) : List Value := l.map fun n => .int .i32 n
theorem wordsN_lt : ∀ (bs : Ia.Bs), ∀ u ∈ wordsN bs, u < 4294967296
  | [], u, h => by simp [wordsN] at h
  | [_], u, h => by simp [wordsN] at h
  | [_, _], u, h => by simp [wordsN] at h
  | [_, _, _], u, h => by simp [wordsN] at h
  | a :: b :: c :: d :: r, u, h => by
    simp only [wordsN, List.mem_cons] at h
    rcases h with rfl | h
    · have := Ia.unle_lt [a, b, c, d]; simpa using this
    · exact wordsN_lt r u h
theorem cell_same {w w' : World} {g : Nat} (h : w'.heap[g]? = w.heap[g]?) (k : Nat) : w'.cell? ⟨g, k, none⟩ = w.cell? ⟨g, k, none⟩ := by
  unfold World.cell?
  rw [h]
theorem src_same {w w' : World} {A : Option Addr} {m c size : Nat} {news : List Value} (h : Src w A m c news size) (hs : ∀ b o s, A = some ⟨b, o, s⟩ → b < w.heap.size → w'.heap[b]? = w.heap[b]?) : Src w' A m c news size :=
  ⟨h.len, h.none, fun ad ha j u hu => by
    have hc := h.some ad ha j u hu
    have hlt := World.block_lt_of_cell? _ _ hc
    obtain ⟨b, o, s⟩ := ad
    have e : ((⟨b, o, s⟩ : Addr).add j).block = b := by unfold Addr.add; split <;> rfl
    rw [e] at hlt
    have hh := hs b o s ha hlt
    unfold World.cell? at hc ⊢
    rw [e] at hc ⊢
    rw [hh]
    exact hc⟩
theorem rd_short {bs : Ia.Bs} (h : bs.length < 21) : rd bs = none := by unfold rd; rw [if_neg (fun hh => by omega)]
theorem rd_magic {bs : Ia.Bs} (h : bs.take 4 ≠ magic) : rd bs = none := by unfold rd; rw [if_neg (fun hh => h hh.1)]
theorem magic_eq (l : List UInt8) : ((⟨l.toArray⟩ : ByteArray).toList == (⟨#[77, 73, 68, 83]⟩ : ByteArray).toList) = decide (l = magic) := by
  rw [ByteArray.toList_eq, ByteArray.toList_eq]
  show (l == [77, 73, 68, 83]) = decide (l = magic)
  by_cases h : l = magic
  · rw [decide_eq_true h, h]; rfl
  · rw [decide_eq_false h]; exact beq_eq_false_iff_ne.2 h
end Go.Proofs.Ytjhopgmionpkoaa
