/-
  The function Scan of the package lex: the tokens of a text.
-/
import Derived.Test.YtjgklpjmbogimaaLexG
import Derived.BigQuiet
import Derived.Deep.QuietTactic
namespace Go.Proofs.Ytjgklpjmbogimaa
open Go.RowKit
attribute [local go_sem] ex_take ex_drop ba_get

def tokCells (t : Lx.Tok) : List Value := [.int .i64 t.kind, .string ⟨t.text.toArray⟩, .int .i32 t.n, .int .i64 t.at_]
def toksCells (l : List Lx.Tok) : List Value := l.flatMap tokCells
theorem toksCells_snoc (l : List Lx.Tok) (t : Lx.Tok) : toksCells (l ++ [t]) = toksCells l ++ tokCells t := by simp [toksCells]
theorem toksCells_len (l : List Lx.Tok) : (toksCells l).length = l.length * 4 := by
  induction l with
  | nil => rfl
  | cons t l ih => simp only [toksCells, List.flatMap_cons, List.length_append, List.length_cons] at *; rw [ih]; simp [tokCells]; omega
theorem below_drewN {B : Nat} {a w : World} (h : Below B a w) (n : Nat) : Below B a (w.drewN n) := ⟨h.os, h.tape, h.output, h.size, h.block⟩
theorem own_below {w w' : World} {base : Nat} {e : TypeId} {size : Nat} {v : Value} {n : Nat} {xs : List Value} (h : w.ownsRow base e size v n xs) (hb : Below w.heap.size w w') : w'.ownsRow base e size v n xs := by
  refine ⟨h.1, ?_⟩
  rcases h.2 with h2 | ⟨g, cap, cur, hv, hg, hh, r⟩
  · exact .inl h2
  · exact .inr ⟨g, cap, cur, hv, hg, by rw [hb.block g (Array.getElem?_eq_some_iff.1 hh).1]; exact hh, r⟩
theorem add_at (g j : Nat) : (⟨g, 0, none⟩ : Addr).add j = ⟨g, j, none⟩ := by unfold Addr.add; split <;> simp_all
theorem cells_new (W : World) (cs : Array Value) (t : TypeId) (g : Nat) (hg : g = W.heap.size) : ∀ j u, cs.toList[j]? = some u → (W.alloc (.cells cs t)).cell? ((⟨g, 0, none⟩ : Addr).add j) = some u := by
  intro j u hu
  subst hg
  rw [add_at, cell_of_row _ W.heap.size j cs t (0, 0) (heap_alloc_new W _)]
  simpa using hu
theorem tok_one (t : Lx.Tok) : ∀ u ∈ tokCells t, u.oneCell' = true := by intro u hu; simp [tokCells] at hu; rcases hu with rfl | rfl | rfl | rfl <;> rfl
theorem infoTok : (Try.prog.info? 29).map (fun i => (i.zero, i.size, i.bytes)) = some (some (.agg #[.int .i64 0, .string ⟨#[]⟩, .int .i32 0, .int .i64 0]), 4, 40) := by kernel_rfl
/-- after some rounds: what is done, what is left -/
structure ScanAt (l : List UInt8) (done : List Lx.Tok) (m : List UInt8) : Prop where
  eq : Lx.scanL l.length (Lx.pass l) = if (Lx.scanL l.length m).2.1 ≠ 0 then ([], (Lx.scanL l.length m).2.1, (Lx.scanL l.length m).2.2) else (done ++ (Lx.scanL l.length m).1, 0, 0)
  room : done.length + m.length ≤ l.length
theorem ScanAt.start (l : List UInt8) : ScanAt l [] (Lx.pass l) := by
  refine ⟨?_, by simpa using Lx.pass_len l⟩
  by_cases h : (Lx.scanL l.length (Lx.pass l)).2.1 = 0
  · rw [if_neg (fun e => e h)]
    exact Lx.scanL_ok _ _ h
  · rw [if_pos h, ← Lx.scanL_bad_nil _ _ _ (Nat.lt_succ_self _) h]
theorem ScanAt.step {l : List UInt8} {done : List Lx.Tok} {m : List UInt8} (h : ScanAt l done m) (hm : m ≠ []) (he : (Lx.next m).2 = 0) :
    ScanAt l (done ++ [{ (Lx.next m).1 with at_ := (l.length : Int) - m.length }]) (Lx.pass (m.drop (Lx.next m).1.text.length)) := by
  have ht := Lx.next_text hm he
  have hp := Lx.pass_len (m.drop (Lx.next m).1.text.length)
  refine ⟨?_, ?_⟩
  · rw [h.eq, Lx.scanL_good _ hm he]
    by_cases hf : (Lx.scanL l.length (Lx.pass (m.drop (Lx.next m).1.text.length))).2.1 = 0
    · simp only [hf, ne_eq, not_true_eq_false, if_false, List.append_assoc, List.singleton_append]
    · simp only [hf, ne_eq, not_false_eq_true, if_true]
  · have := h.room
    rw [List.length_drop] at hp
    simp only [List.length_append, List.length_cons, List.length_nil]
    omega
theorem ScanAt.bad {l : List UInt8} {done : List Lx.Tok} {m : List UInt8} (h : ScanAt l done m) (hm : m ≠ []) (he : (Lx.next m).2 ≠ 0) :
    Lx.scanL l.length (Lx.pass l) = ([], (Lx.next m).2, (l.length : Int) - m.length) := by
  rw [h.eq, Lx.scanL_bad _ hm he]
  simp only
  rw [if_pos he]
theorem ScanAt.fin {l : List UInt8} {done : List Lx.Tok} (h : ScanAt l done []) : Lx.scanL l.length (Lx.pass l) = (done, 0, 0) := by
  rw [h.eq, Lx.scanL_nil]; simp
/-- what Scan gives back -/
def ScanGives (l : List UInt8) (w : World) (e : Ending) (w' : World) : Prop :=
  ∃ v, e = .returned (.tuple #[v, .int .i64 (Lx.scan l).2.1, .int .i64 (Lx.scan l).2.2]) ∧ w'.ownsRow w.heap.size 29 4 v (Lx.scan l).1.length (toksCells (Lx.scan l).1) ∧ Below w.heap.size w w'
theorem scanGives_mk {l : List UInt8} {w w' : World} {v : Value} {ts : List Lx.Tok} {e p : Int} (hs : Lx.scan l = (ts, e, p)) (ho : w'.ownsRow w.heap.size 29 4 v ts.length (toksCells ts)) (hb : Below w.heap.size w w') :
    ScanGives l w (.returned (.tuple #[v, .int .i64 e, .int .i64 p])) w' := by
  refine ⟨v, ?_, ?_, hb⟩
  · rw [hs]
  · rw [hs]; exact ho
set_option maxRecDepth 100000 in
set_option maxHeartbeats 4000000 in
theorem lexscan (l : List UInt8) (hl : l.length ≤ maxLen) (w : World) : Calls Try.prog 15 #[.string ⟨l.toArray⟩] w (ScanGives l w) := by
  have HL := Lib.hid hl
  unfold maxLen at hl
  by_cases hbig : 4096 < l.length
  · have hs := Lib.hid (Lx.scan_big hbig)
    go_enter Try.func15, Try.ntmps15
    go_wp2
    go_ret3
    exact scanGives_mk hs.out (World.ownsRow_nil _ _ _ _) (Below.refl _ _)
  · have hs := Lib.hid (Lx.scan_small (l := l) (by omega))
    go_enter Try.func15, Try.ntmps15
    go_wp2_with fail
    refine (lexpass l HL.out _).mono ?_
    rintro e w0 ⟨rfl, hb0⟩
    go_wp2_with fail
    go_loopw [5, 6] (fun v u wr => ∃ (done : List Lx.Tok) (m : List UInt8), u = .string ⟨m.toArray⟩ ∧ m.length ≤ l.length ∧ Hid (ScanAt l done m) ∧ done.length ≤ 4096 ∧ Hid (wr.ownsRow w.heap.size 29 4 v done.length (toksCells done)) ∧ Below w.heap.size w wr) (fun _ u _ => strLen u)
    case atStart => exact ⟨[], Lx.pass l, rfl, Lx.pass_len l, ScanAt.start l, by simp, World.ownsRow_nil _ _ _ _, hb0⟩
    case round =>
      obtain ⟨done, m, rfl, hm, HS, hdn, HO, hb⟩ := hrel
      by_cases h0 : m = []
      · subst h0
        go_wp2_with fail
        go_ret3
        have hf := HS.out.fin
        exact scanGives_mk (hs.out.trans hf) HO.out hb
      · have hm0 := Lib.hid h0
        have hne : (!m.isEmpty) = true := by simpa using h0
        clear h0
        have hm1 : m.length ≤ maxLen := by unfold maxLen; omega
        have HM1 := Lib.hid hm1
        clear hm1
        by_cases he : (Lx.next m).2 = 0
        · have HN := Lib.hid he
          have ht := Lx.next_text hm0.out he
          have hp := Lx.pass_len (m.drop (Lx.next m).1.text.length)
          have hst := Lib.hid (HS.out.step hm0.out he)
          rw [List.length_drop] at hp
          have hat := Lx.next_at m
          have hroom := hst.out.room
          simp only [List.length_append, List.length_cons, List.length_nil] at hroom
          have hok := Lib.hid (show (m.drop (Lx.next m).1.text.length).length ≤ maxLen by rw [List.length_drop]; unfold maxLen; omega)
          generalize hq : Lx.pass (m.drop (Lx.next m).1.text.length) = q at *
          generalize hx : m.drop (Lx.next m).1.text.length = x at *
          have HQ := Lib.hid hq
          clear he hq
          generalize ht' : (Lx.next m).1 = t at *
          have HT := Lib.hid ht'
          clear ht'
          obtain ⟨k, tx, nn, pl⟩ := t
          simp only at hat ht hp hroom hx
          subst hat
          obtain ⟨i0, hi, hz0, hz1, hz2⟩ := info_parts infoTok
          have HT1 := Lib.hid ht.1
          obtain ⟨ht0, ht1, ht2⟩ := ht
          clear ht0
          go_wp2_with fail
          refine (lexnext m hm0.out HM1.out _).mono ?_
          rintro e w1 ⟨rfl, hb1⟩
          rw [HN.out, HT.out]
          unfold tokAgg
          have HB := Lib.hid (hb.trans (hb1.mono hb.size))
          have hz1' : wr.heap.size ≤ w1.heap.size := hb1.size
          have hown1 := Lib.hid (own_below HO.out hb1)
          have hlt := Lib.hid HO.out.lt
          clear hb1
          go_wp2_with ((at_builtin; refine wpList_append_own _ rfl _ _ 24 rfl w.heap.size 29 i0 (.agg #[.int .i64 0, .string ⟨#[]⟩, .int .i32 0, .int .i64 0]) 4 40 Try.underlying24 hi hz0 hz1 hz2 rfl (by decide) _ _ _ rfl ((hown1.out.alloc _).alloc _) ⟨w1.heap.size + 1, 0, none⟩ 1 1 (tokCells ⟨k, tx, nn, (l.length : Int) - m.length⟩) rfl rfl ?c1 ?c2 ?c3 ?c4 ?c5 ?_))
          case c1 => exact cells_new _ _ _ _ (by simp)
          case c2 => exact tok_one _
          case c3 => unfold maxLen; omega
          case c4 => omega
          case c5 => have := HB.out.size; simp; omega
          intro v' w2 hown2 hgrow _
          have hne2 : some w1.heap.size ≠ u5.ownBlock := fun e => by have := (hlt.out _ e.symm).2; omega
          have hc1 : w2.cell? ⟨w1.heap.size, 1, none⟩ = some (.string ⟨tx.toArray⟩) := hgrow.cell (by simp [go_sem]) hne2
          have HB2 : Hid (Below w.heap.size w w2) := ((HB.out.alloc HB.out.size _).alloc (by have := HB.out.size; simp; omega) _).grown hgrow (by have := HB.out.size; simp; omega) (fun k hk => (hlt.out k hk).1)
          have HO2 := Lib.hid hown2
          clear hown2 hgrow hne2
          go_wp2_with fail
          refine (lexpass x hok.out _).mono ?_
          rintro e w3 ⟨rfl, hb3⟩
          have hq := HQ.out
          rw [hq]
          clear hq
          go_wp2_with fail
          go_roundw
          case rel =>
            refine ⟨done ++ [⟨k, tx, nn, (l.length : Int) - m.length⟩], q, rfl, by omega, hst, by simp; omega, ?_, HB2.out.trans (hb3.mono HB2.out.size)⟩
            have := own_below HO2.out hb3
            rw [← toksCells_snoc] at this
            have h2 : (done ++ [(⟨k, tx, nn, (l.length : Int) - m.length⟩ : Lx.Tok)]).length = done.length + 1 := by simp
            rw [h2]
            exact this
          case measure =>
            simp [strLen, ByteArray.size]
            omega
        · have HE := Lib.hid he
          have HF := Lib.hid (HS.out.bad hm0.out he)
          have heb : ((Lx.next m).2 != 0) = true := by rw [bne_iff_ne]; exact he
          clear he
          generalize ht' : (Lx.next m).1 = t at *
          have HT := Lib.hid ht'
          clear ht'
          generalize hee : (Lx.next m).2 = ee at *
          have HEE := Lib.hid hee
          clear hee
          obtain ⟨k, tx, nn, pl⟩ := t
          go_wp2_with fail
          refine (lexnext m hm0.out HM1.out _).mono ?_
          rintro e w1 ⟨rfl, hb1⟩
          rw [HT.out, HEE.out]
          unfold tokAgg
          have HB := Lib.hid (hb.trans (hb1.mono hb.size))
          clear hb1
          go_wp2_with fail
          go_quiet (fail)
          go_wp2_with fail
          go_ret3
          exact scanGives_mk (hs.out.trans HF.out) (World.ownsRow_nil _ _ _ _) (below_drewN (HB.out.alloc HB.out.size _) _)
end Go.Proofs.Ytjgklpjmbogimaa
