/-
  The closures of read: a number, and a run, at the place so far.
-/
import Derived.Test.YtjhopgmionpkoaaIm2
import Derived.Test.YtjhopgmionpkoaaOct1
import Derived.Test.YtjhopgmionpkoaaIm3
namespace Go.Proofs.Ytjhopgmionpkoaa
set_option maxRecDepth 20000
open Go.RowKit Mem

theorem K2.trans {g1 g2 : Nat} {w w1 w2 : World} (h : K2 g1 g2 w w1) (h' : K2 g1 g2 w1 w2) : K2 g1 g2 w w2 :=
  ⟨h'.os.trans h.os, h'.tape.trans h.tape, h'.output.trans h.output, Nat.le_trans h.size h'.size, fun g hg a b => (h'.block g (Nat.lt_of_lt_of_le hg h.size) a b).trans (h.block g hg a b)⟩
theorem K2.of_below {g1 g2 : Nat} {w w1 : World} (h : Below w.heap.size w w1) : K2 g1 g2 w w1 := ⟨h.os, h.tape, h.output, h.size, fun g hg _ _ => h.block g hg⟩
/-- what holds while an image is read: the bytes, the place, and whether all was there -/
structure RdS (w : World) (gb ga gk : Nat) (A : Option Addr) (c : Nat) (bs : Ia.Bs) (q : Nat) (b : Bool) : Prop where
  rb : w.heap[gb]? = some (.cells #[.slice A bs.length c] 31 (0, 0))
  ra : w.heap[ga]? = some (.cells #[.int .i64 (q : Int)] 3 (0, 0))
  rk : w.heap[gk]? = some (.cells #[.bool b] 4 (0, 0))
  at_ : BytesAt w A bs
  off : ∀ b o s, A = some ⟨b, o, s⟩ → b ≠ ga ∧ b ≠ gk
  d1 : gb ≠ ga
  d2 : gb ≠ gk
  d3 : ga ≠ gk
  cap : bs.length ≤ c
  len : bs.length ≤ 1000000
  le : q ≤ bs.length
theorem RdS.below {w w' : World} {gb ga gk : Nat} {A : Option Addr} {c : Nat} {bs : Ia.Bs} {q : Nat} {b : Bool} (h : RdS w gb ga gk A c bs q b) (hb : Below w.heap.size w w') : RdS w' gb ga gk A c bs q b :=
  { h with rb := (hb.block _ (Array.getElem?_eq_some_iff.1 h.rb).1).trans h.rb, ra := (hb.block _ (Array.getElem?_eq_some_iff.1 h.ra).1).trans h.ra, rk := (hb.block _ (Array.getElem?_eq_some_iff.1 h.rk).1).trans h.rk, at_ := h.at_.below hb (Nat.le_refl _) }
theorem bytes_set {w : World} {A : Option Addr} {bs : Ia.Bs} {g : Nat} {v : Value} (h : BytesAt w A bs) (hne : ∀ b o s, A = some ⟨b, o, s⟩ → b ≠ g) : BytesAt (w.setCell ⟨g, 0, none⟩ v) A bs := by
  intro k hk
  obtain ⟨b, off, e, hc⟩ := h k hk
  have hlt := World.block_lt_of_cell? _ _ hc
  refine ⟨b, off, e, ?_⟩
  rw [World.grownBy.cell_far (grown_setCell w g 0 v) ⟨b, off + k, none⟩ hlt (by simpa using hne b off none e)]
  exact hc
theorem RdS.place {w : World} {gb ga gk : Nat} {A : Option Addr} {c : Nat} {bs : Ia.Bs} {q : Nat} {b : Bool} (h : RdS w gb ga gk A c bs q b) (p : Nat) (hp : p ≤ bs.length) : RdS (w.setCell ⟨ga, 0, none⟩ (.int .i64 (p : Int))) gb ga gk A c bs p b := by
  refine { h with rb := ?_, ra := ?_, rk := ?_, at_ := bytes_set h.at_ (fun b o s e => (h.off b o s e).1), le := hp }
  · rw [heap_setCell_other _ _ _ _ (by simpa using h.d1)]; exact h.rb
  · simpa using heap_setCell_same _ ga 0 _ _ (.int .i64 (p : Int)) h.ra
  · rw [heap_setCell_other _ _ _ _ (by simpa using h.d3.symm)]; exact h.rk
theorem RdS.flag {w : World} {gb ga gk : Nat} {A : Option Addr} {c : Nat} {bs : Ia.Bs} {q : Nat} {b : Bool} (h : RdS w gb ga gk A c bs q b) (b' : Bool) : RdS (w.setCell ⟨gk, 0, none⟩ (.bool b')) gb ga gk A c bs q b' := by
  refine { h with rb := ?_, ra := ?_, rk := ?_, at_ := bytes_set h.at_ (fun b o s e => (h.off b o s e).2) }
  · rw [heap_setCell_other _ _ _ _ (by simpa using h.d2)]; exact h.rb
  · rw [heap_setCell_other _ _ _ _ (by simpa using h.d3)]; exact h.ra
  · simpa using heap_setCell_same _ gk 0 _ _ (.bool b') h.rk
def GetPost (w : World) (gb ga gk : Nat) (A : Option Addr) (c : Nat) (bs : Ia.Bs) (q' : Nat) (b' : Bool) (v : Value) (e : Ending) (w' : World) : Prop := e = .returned v ∧ RdS w' gb ga gk A c bs q' b' ∧ K2 ga gk w w'
set_option maxHeartbeats 4000000 in
/-- a number that is there -/
theorem rdget_ok (w : World) (gb ga gk : Nat) (A : Option Addr) (c : Nat) (bs : Ia.Bs) (q wd : Nat) (b : Bool) (h : RdS w gb ga gk A c bs q b) (h1 : 1 ≤ wd) (h4 : wd ≤ 4) (hq : q + wd ≤ bs.length) :
    Calls Try.prog 62 #[.int .i64 wd, .pointer (some ⟨gb, 0, none⟩), .pointer (some ⟨ga, 0, none⟩), .pointer (some ⟨gk, 0, none⟩)] w (GetPost w gb ga gk A c bs (q + wd) b (.int .i64 (word bs q wd : Nat))) := by
  have HG := Lib.hid (octget bs A c q wd w h.at_ (by have := h.len; omega) h1 (by omega) (by omega) (by have := h.len; omega))
  rw [get_good h1 (by omega) hq] at HG
  dsimp only at HG
  have hlt : (word bs q wd : Int) ≤ 4294967295 := by
    have h2 := word_lt bs q wd
    have h3 : (256 : Nat) ^ wd ≤ 256 ^ 4 := Nat.pow_le_pow_right (by omega) h4
    omega
  have HS := Lib.hid (((h.flag b).place (q + wd) hq))
  have HK : Hid (K2 ga gk w ((w.setCell ⟨gk, 0, none⟩ (.bool b)).setCell ⟨ga, 0, none⟩ (.int .i64 ((q + wd : Nat) : Int)))) := ((K2.refl _ _ _).set (.inr rfl) 0 _).set (.inl rfl) 0 _
  have eq1 : (((q + wd : Nat)) : Int) = (q : Int) + wd := by omega
  rw [eq1] at HS HK
  have c0 : w.cell? ⟨gb, 0, none⟩ = some (.slice A bs.length c) := cell_of_row _ _ 0 _ _ (0, 0) h.rb
  have c1 : w.cell? ⟨ga, 0, none⟩ = some (.int .i64 (q : Int)) := cell_of_row _ _ 0 _ _ (0, 0) h.ra
  have c2 : w.cell? ⟨gk, 0, none⟩ = some (.bool b) := cell_of_row _ _ 0 _ _ (0, 0) h.rk
  have f1 : w.frozen? ⟨ga, 0, none⟩ = false := frozen_of_row _ _ _ _ _ h.ra
  have f2 : w.frozen? ⟨gk, 0, none⟩ = false := frozen_of_row _ _ _ _ _ h.rk
  have hz := h.len
  have n1 : gb ≠ ga := h.d1
  have n2 : gb ≠ gk := h.d2
  have n3 : ga ≠ gk := h.d3
  have n4 : gk ≠ ga := h.d3.symm
  have m1 : ¬ ((bs.length : Int) < (q : Int) + wd) := by omega
  have m2 : (q : Int) + wd ≤ (bs.length : Int) := by omega
  clear h eq1 hq
  generalize word bs q wd = n at *
  cases b
  all_goals
    go_enter Try.func62, Try.ntmps62
    go_wp2_with fail
    refine HG.out.mono ?_
    rintro e w1 ⟨rfl, rfl⟩
    go_wp2_with fail
    go_ret
    exact ⟨rfl, HS.out, HK.out⟩
set_option maxHeartbeats 4000000 in
/-- a number that is not there -/
theorem rdget_no (w : World) (gb ga gk : Nat) (A : Option Addr) (c : Nat) (bs : Ia.Bs) (q wd : Nat) (b : Bool) (h : RdS w gb ga gk A c bs q b) (h1 : 1 ≤ wd) (h4 : wd ≤ 4) (hq : ¬ q + wd ≤ bs.length) :
    Calls Try.prog 62 #[.int .i64 wd, .pointer (some ⟨gb, 0, none⟩), .pointer (some ⟨ga, 0, none⟩), .pointer (some ⟨gk, 0, none⟩)] w (GetPost w gb ga gk A c bs bs.length false (.int .i64 (word bs q wd : Nat))) := by
  have HG := Lib.hid (octget bs A c q wd w h.at_ (by have := h.len; omega) h1 (by omega) (by omega) (by have := h.len; have := h.le; omega))
  obtain ⟨er, he, hg, hw⟩ := get_bad (bs := bs) (p := q) (wd := wd) h1 (by omega) hq
  rw [hg] at HG
  rw [hw]
  dsimp only at HG
  have HS := Lib.hid (((h.flag false).place bs.length (Nat.le_refl _)))
  have HK : Hid (K2 ga gk w ((w.setCell ⟨gk, 0, none⟩ (.bool false)).setCell ⟨ga, 0, none⟩ (.int .i64 ((bs.length : Nat) : Int)))) := ((K2.refl _ _ _).set (.inr rfl) 0 _).set (.inl rfl) 0 _
  have c0 : w.cell? ⟨gb, 0, none⟩ = some (.slice A bs.length c) := cell_of_row _ _ 0 _ _ (0, 0) h.rb
  have c1 : w.cell? ⟨ga, 0, none⟩ = some (.int .i64 (q : Int)) := cell_of_row _ _ 0 _ _ (0, 0) h.ra
  have c2 : w.cell? ⟨gk, 0, none⟩ = some (.bool b) := cell_of_row _ _ 0 _ _ (0, 0) h.rk
  have f1 : w.frozen? ⟨ga, 0, none⟩ = false := frozen_of_row _ _ _ _ _ h.ra
  have f2 : w.frozen? ⟨gk, 0, none⟩ = false := frozen_of_row _ _ _ _ _ h.rk
  have hz := h.len
  have hle := h.le
  have n1 : gb ≠ ga := h.d1
  have n2 : gb ≠ gk := h.d2
  have n3 : ga ≠ gk := h.d3
  have n4 : gk ≠ ga := h.d3.symm
  have m1 : (bs.length : Int) < (q : Int) + wd := by omega
  have m2 : ¬ ((q : Int) + wd ≤ (bs.length : Int)) := by omega
  have be : (er == 0) = false := by simpa using he
  clear h hq he hg hw
  cases b
  all_goals
    go_enter Try.func62, Try.ntmps62
    go_wp2_with fail
    refine HG.out.mono ?_
    rintro e w1 ⟨rfl, rfl⟩
    go_wp2_with fail
    go_ret
    exact ⟨rfl, HS.out, HK.out⟩
def nxq (bs : Ia.Bs) (q wd : Nat) : Nat := if q + wd ≤ bs.length then q + wd else bs.length
def nxb (bs : Ia.Bs) (q wd : Nat) (b : Bool) : Bool := b && decide (q + wd ≤ bs.length)
theorem rdget (w : World) (gb ga gk : Nat) (A : Option Addr) (c : Nat) (bs : Ia.Bs) (q wd : Nat) (b : Bool) (h : RdS w gb ga gk A c bs q b) (h1 : 1 ≤ wd) (h4 : wd ≤ 4) :
    Calls Try.prog 62 #[.int .i64 wd, .pointer (some ⟨gb, 0, none⟩), .pointer (some ⟨ga, 0, none⟩), .pointer (some ⟨gk, 0, none⟩)] w (GetPost w gb ga gk A c bs (nxq bs q wd) (nxb bs q wd b) (.int .i64 (word bs q wd : Nat))) := by
  unfold nxq nxb
  by_cases hq : q + wd ≤ bs.length
  · rw [if_pos hq, decide_eq_true hq, Bool.and_true]
    exact rdget_ok w gb ga gk A c bs q wd b h h1 h4 hq
  · rw [if_neg hq, decide_eq_false hq, Bool.and_false]
    exact rdget_no w gb ga gk A c bs q wd b h h1 h4 hq
def rnv (bs : Ia.Bs) (q : Nat) : Ia.Bs := ((runAt bs q).map (·.1)).getD []
def rnq (bs : Ia.Bs) (q : Nat) : Nat := ((runAt bs q).map (·.2)).getD q
def rnb (bs : Ia.Bs) (q : Nat) (b : Bool) : Bool := b && (runAt bs q).isSome
def RunPost (w : World) (gb ga gk : Nat) (A : Option Addr) (c : Nat) (bs : Ia.Bs) (q' : Nat) (b' : Bool) (x : Ia.Bs) (e : Ending) (w' : World) : Prop :=
  ∃ A' c', e = .returned (.slice A' x.length c') ∧ BSrc w' A' c' x ∧ (∀ b o s, A' = some ⟨b, o, s⟩ → w.heap.size ≤ b) ∧ RdS w' gb ga gk A c bs q' b' ∧ K2 ga gk w w'
set_option maxHeartbeats 4000000 in
theorem rdrun (w : World) (gb ga gk : Nat) (A : Option Addr) (c : Nat) (bs : Ia.Bs) (q : Nat) (b : Bool) (h : RdS w gb ga gk A c bs q b) :
    Calls Try.prog 64 #[.pointer (some ⟨gb, 0, none⟩), .pointer (some ⟨ga, 0, none⟩), .pointer (some ⟨gk, 0, none⟩)] w (RunPost w gb ga gk A c bs (rnq bs q) (rnb bs q b) (rnv bs q)) := by
  have hz := h.len
  have hle := h.le
  have n1 : gb ≠ ga := h.d1
  have n2 : gb ≠ gk := h.d2
  have n3 : ga ≠ gk := h.d3
  have n4 : gk ≠ ga := h.d3.symm
  have c0 : w.cell? ⟨gb, 0, none⟩ = some (.slice A bs.length c) := cell_of_row _ _ 0 _ _ (0, 0) h.rb
  have c1 : w.cell? ⟨ga, 0, none⟩ = some (.int .i64 (q : Int)) := cell_of_row _ _ 0 _ _ (0, 0) h.ra
  have c2 : w.cell? ⟨gk, 0, none⟩ = some (.bool b) := cell_of_row _ _ 0 _ _ (0, 0) h.rk
  have la := (Array.getElem?_eq_some_iff.1 h.ra).1
  have lk := (Array.getElem?_eq_some_iff.1 h.rk).1
  cases hr : runAt bs q with
  | none =>
    have HG := Lib.hid (octgetrun_no bs A c q w h.at_ (by omega) (by omega) hr)
    have e1 : rnv bs q = [] := by unfold rnv; rw [hr]; rfl
    have e2 : rnq bs q = q := by unfold rnq; rw [hr]; rfl
    have e3 : rnb bs q b = false := by unfold rnb; rw [hr]; simp
    rw [e1, e2, e3]
    have HS := Lib.hid (h.flag false)
    have HK : Hid (K2 ga gk w (w.setCell ⟨gk, 0, none⟩ (.bool false))) := (K2.refl _ _ _).set (.inr rfl) 0 _
    have f2 : w.frozen? ⟨gk, 0, none⟩ = false := frozen_of_row _ _ _ _ _ h.rk
    clear h e1 e2 e3 hr
    go_enter Try.func64, Try.ntmps64
    go_wp2_with fail
    refine HG.out.mono ?_
    rintro e w1 ⟨er, be, rfl, rfl⟩
    go_wp2_with fail
    go_ret
    exact ⟨none, 0, rfl, ⟨rfl, fun _ => ⟨rfl, rfl⟩, fun ad e => (by cases e)⟩, fun b o s e => (by cases e), HS.out, HK.out⟩
  | some r =>
    obtain ⟨x, p⟩ := r
    have HG := Lib.hid (octgetrun_ok bs A c q x p w h.at_ h.cap (by omega) hr)
    have hp : p ≤ bs.length := by
      unfold runAt at hr
      split at hr
      · injection hr with hr; injection hr with h1 h2; omega
      · cases hr
    have e1 : rnv bs q = x := by unfold rnv; rw [hr]; rfl
    have e2 : rnq bs q = p := by unfold rnq; rw [hr]; rfl
    have e3 : rnb bs q b = b := by unfold rnb; rw [hr]; simp
    rw [e1, e2, e3]
    have HH := Lib.hid h
    have HP := Lib.hid hp
    clear h e1 e2 e3 hr hp
    go_enter Try.func64, Try.ntmps64
    go_wp2_with fail
    refine HG.out.mono ?_
    rintro e w1 ⟨v, rfl, hown, hb⟩
    obtain ⟨A', c', rfl⟩ := own_slice hown
    have h1 := HH.out.below hb
    have f1 : w1.frozen? ⟨ga, 0, none⟩ = false := frozen_of_row _ _ _ _ _ h1.ra
    have c3 : w1.cell? ⟨ga, 0, none⟩ = some (.int .i64 (q : Int)) := cell_of_row _ _ 0 _ _ (0, 0) h1.ra
    have hne : Value.ownBlock (.slice A' x.length c') ≠ some ga := fun e => by have := (hown.lt _ e).1; omega
    have HS := Lib.hid (h1.place p HP.out)
    have HK : Hid (K2 ga gk w (w1.setCell ⟨ga, 0, none⟩ (.int .i64 (p : Int)))) := (K2.of_below hb).set (.inl rfl) 0 _
    have HX := Lib.hid (Src.of_own (hown.kept (grown_setCell w1 ga 0 (.int .i64 (p : Int))) (.inr hne)))
    have HF : Hid (∀ b o s, A' = some ⟨b, o, s⟩ → w.heap.size ≤ b) := fun b o s e => (own_off hown b o s e).1
    clear hown hb h1 hne
    go_wp2_with fail
    go_ret
    exact ⟨A', c', rfl, HX.out, HF.out, HS.out, HK.out⟩
end Go.Proofs.Ytjhopgmionpkoaa
