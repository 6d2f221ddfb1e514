/-
  Numbers and runs out of bytes, by the reference of image.
  One more number of the first memory, by the reference, whatever the order.
  The image that bytes say, loosely: the function Read of the reference.
-/
import Derived.Test.YtjhopgmionpkoaaIm4
import Derived.Test.YtjhopgmionpkoaaImI0
import Derived.Test.YtjhopgmionpkoaaOct1
import Derived.Test.YtjhopgmionpkoaaIsa2
import Derived.Test.YtjhopgmionpkoaaRgn
import Derived.Test.YtjhopgmionpkoaaImLaw
import Derived.Test.YtjhopgmionpkoaaCells
namespace Go.Proofs.Ytjhopgmionpkoaa
set_option maxRecDepth 20000
open Go.RowKit Mem

theorem bytes_same {w w' : World} {A : Option Addr} {bs : Ia.Bs} (h : BytesAt w A bs) (hs : ∀ b o s, A = some ⟨b, o, s⟩ → b < w.heap.size → w'.heap[b]? = w.heap[b]?) : BytesAt w' A bs := by
  intro k hk
  obtain ⟨b, off, e, hc⟩ := h k hk
  refine ⟨b, off, e, ?_⟩
  rw [cell_same (hs b off none e (World.block_lt_of_cell? _ _ hc))]
  exact hc
set_option maxHeartbeats 4000000 in
theorem refget11 (bs : Ia.Bs) (A : Option Addr) (c n p wd : Nat) (w : World) (hn : bs.length = n) (hA : BytesAt w A bs) (hl : n ≤ 1000000) (h1 : 1 ≤ wd) (h4 : wd ≤ 4) (hp : p ≤ 2000000) :
    Calls Try.prog 69 #[.slice A n c, .int .i64 p, .int .i64 wd] w fun e w' => e = .returned (.int .i64 (word bs p wd : Nat)) ∧ w = w' := by
  subst hn
  have hg : ∃ er, get bs p wd = (word bs p wd, er) := by
    by_cases h : p + wd ≤ bs.length
    · exact ⟨0, get_good h1 (by omega) h⟩
    · obtain ⟨er, _, h2, h3⟩ := get_bad (bs := bs) (p := p) (wd := wd) h1 (by omega) h
      exact ⟨er, by rw [h2, h3]⟩
  obtain ⟨er, hg⟩ := hg
  have hr := refget bs A c p wd w hA (by omega) h1 (by omega) (by omega) (by omega)
  rw [hg] at hr
  dsimp only at hr
  have HR := Lib.hid hr
  have hlt : (word bs p wd : Int) ≤ 4294967295 := by
    have h2 := word_lt bs p wd
    have h3 : (256 : Nat) ^ wd ≤ 256 ^ 4 := Nat.pow_le_pow_right (by omega) h4
    omega
  clear hr hg hA
  generalize word bs p wd = x at *
  go_enter Try.func69, Try.ntmps69
  go_wp2_with fail
  refine HR.out.mono ?_
  rintro e w1 ⟨rfl, rfl⟩
  go_wp2_with fail
  go_ret
  exact ⟨rfl, rfl⟩
def RLPost (x : Ia.Bs) (p' : Nat) (w : World) (e : Ending) (w' : World) : Prop := ∃ A' c' er, e = .returned (.tuple #[.slice A' x.length c', .int .i64 (p' : Int), .int .i64 er]) ∧ BSrc w' A' c' x ∧ x.length ≤ c' ∧ Below w.heap.size w w' ∧ ∀ b o s, A' = some ⟨b, o, s⟩ → w.heap.size ≤ b
theorem refgetrunL (bs : Ia.Bs) (A : Option Addr) (c p : Nat) (w : World) (hA : BytesAt w A bs) (hc : bs.length ≤ c) (hn : bs.length ≤ 1000000) (hp : p ≤ 1000000) :
    Calls Try.prog 70 #[.slice A bs.length c, .int .i64 p] w (RLPost (runL bs p).1 (runL bs p).2 w) := by
  unfold runL
  cases hr : runAt bs p with
  | none =>
    refine (refgetrun_no bs A c p w hA (by omega) (by omega) hr).mono ?_
    rintro e w' ⟨er, _, rfl, n, rfl⟩
    exact ⟨none, 0, er, rfl, ⟨rfl, fun _ => ⟨rfl, rfl⟩, fun ad e => (by cases e)⟩, Nat.le_refl _, below_drewN (Below.refl _ _) n, fun b o s e => (by cases e)⟩
  | some r =>
    obtain ⟨x, q⟩ := r
    refine (refgetrun_ok bs A c p x q w hA hc (by omega) hr).mono ?_
    rintro e w' ⟨v, rfl, hown, hb⟩
    obtain ⟨A', c', rfl⟩ := own_slice hown
    exact ⟨A', c', 0, rfl, Src.of_own hown, own_len hown, hb, fun b o s e => (own_off hown b o s e).1⟩
theorem conv_u32 (w : World) (px : Nat) (h : (px : Int) ≤ 4294967295) : (convert 3 22 (.int .i64 (px : Int))).run Try.prog w = .ok (.int .u32 (px : Int)) w := by
  have : IntKind.u32.wrap (px : Int) = px := by rw [IntKind.wrap_u32]; omega
  have hk : Try.prog.intKind 22 = .u32 := by kernel_rfl
  rw [run_convert_int (P := Try.prog) w 3 22 .i64 (px : Int) (by rw [Try.underlying3]; rfl) (by rw [hk]; exact Try.underlying22), hk, this]
end Go.Proofs.Ytjhopgmionpkoaa
namespace Go.Proofs.Ytjhopgmionpkoaa
set_option maxRecDepth 20000
open Go.RowKit Mem

set_option linter.unusedVariables false
noncomputable def riraOps : Array Oper := findOps 14 ((Try.f34).body.getD (.exit 0))
def riraSlots : List (Nat × Nat) := [(0, 76), (2, 78), (3, 79), (4, 80), (5, 81), (6, 82), (9, 85)]
def riraCh : List (Nat × Option Nat) := [(1, some 77), (7, some 83), (8, some 84), (10, none)]
def riraVal (gm : Nat) (xv : Int) (A : Option Addr) (cz nz pz px : Nat) : Nat → Value
  | 0 => .pointer (some ⟨gm, 8, none⟩)
  | 2 => .slice A nz cz
  | 3 => .int .i64 (pz : Int)
  | 4 => .int .i64 (px : Int)
  | 5 => .int .u32 (px : Int)
  | 6 => .int .i32 xv
  | _ => .pointer (some ⟨gm, 8, none⟩)
theorem riraRegion {Q : Exit → Act → World → Prop} (a0 : Act) (W0 : World) (hs : 85 < a0.tmps.size) (gm k base : Nat) (R : Array Value) (V : Value) (xs : List Value) (xv : Int) (hRs : R.size = 13) (hR8 : R[8]? = some V) (hgm : gm < base) (hbase : base ≤ W0.heap.size) (hk : k ≤ 1000000) (hrow : W0.heap[gm]? = some (.cells R 28 (0, 0))) (hown : W0.ownsRow base 21 1 V k xs) (A : Option Addr) (cz nz pz : Nat) (px : Nat) (bs : Ia.Bs) (hb : BytesAt W0 A bs) (hoff : ∀ b o s, A = some ⟨b, o, s⟩ → b < base ∧ b ≠ gm) (hn : bs.length = nz) (hn2 : nz ≤ 1000000) (hp : pz ≤ nz) (hpx : px = word bs pz 4) (hx : xv = Ia.signedN px)
    (e3 : a0.eval (.tmp 3) = .pointer (some ⟨gm, 0, none⟩))
    (e4 : a0.eval (.tmp 4) = .slice A nz cz)
    (e13 : a0.eval (.tmp 13) = .int .i64 (pz : Int))
    (hQ : ∀ (vs : Nat → Value) w, (ImraC W0 gm k base R V xs xv 1 7 8 10 77 83 84) (fun _ => true) vs w → Q .normal (riraSlots.foldl (fun x p => x.put (some p.2) ((riraVal gm xv A cz nz pz px) p.1)) ([77, 83, 84].foldl (fun x d => x.put (some d) (vs d)) a0)) w) :
    wpAny Try.prog .any riraOps Q 11 (Array.replicate 11 false) a0 W0.drew := by
  have ok : slotsFix riraSlots a0.tmps.size = true := by
    have : ∀ z, 85 < z → slotsFix riraSlots z = true := by
      intro z hz
      simp [slotsFix, riraSlots]
      try omega
    exact this _ hs
  have okc : chainOk riraSlots riraCh a0.tmps.size = true := by
    have : ∀ z, 85 < z → chainOk riraSlots riraCh z = true := by
      intro z hz
      simp [chainOk, riraSlots, riraCh]
      try omega
    exact this _ hs
  obtain ⟨i0, hi0, hi1, hi2, hi3⟩ := info_parts infoI32
  have hsz25 : (Try.prog.info? 25).map (·.size) = some 1 := by kernel_rfl
  have hpl : (px : Int) ≤ 4294967295 := by have := word_lt bs pz 4; omega
  refine region_chain2 (by kernel_rfl) W0 a0 riraSlots (riraVal gm xv A cz nz pz px) riraCh (ImraC W0 gm k base R V xs xv 1 7 8 10 77 83 84) ok okc 11 (by kernel_rfl) (by kernel_rfl) (by kernel_rfl) (fun L L' vs w h hc => by have h1 := h (1, some 77) (by decide); have h2 := h (7, some 83) (by decide); have h3 := h (8, some 84) (by decide); have h4 := h (10, none) (by decide); unfold ImraC at *; simp only [← h1, ← h2, ← h3, ← h4]; exact hc) (fun L vs w w' hc hb => by obtain ⟨a0, a1, a2, a3, a4, a5, a6, a7⟩ := hc; exact ⟨a0.below hb hbase, a1, a2, a3, fun y => own_below (a4 y) hb, fun y z => by obtain ⟨g, e, hh, hl⟩ := a5 y z; exact ⟨g, e, (hb.block _ (Array.getElem?_eq_some_iff.1 hh).1).trans hh, hl⟩, fun y => own_below (a6 y) hb, (hb.block _ (Array.getElem?_eq_some_iff.1 a7).1).trans a7⟩) (by refine ⟨⟨rfl, rfl, rfl, Nat.le_refl _, fun _ _ _ => rfl⟩, fun h => (by cases h), fun h => (by cases h), fun h => (by cases h), fun _ => hown, fun h => (by cases h), fun h => (by cases h), hrow⟩) ?_ (fun vs w hc => hQ vs w hc)
  intro a1 i L a w hev h hc hi hf hneed
  replace e3 := (hev 3 rfl).trans e3
  replace e4 := (hev 4 rfl).trans e4
  replace e13 := (hev 13 rfl).trans e13
  rcases (show i = 0 ∨ i = 1 ∨ i = 2 ∨ i = 3 ∨ i = 4 ∨ i = 5 ∨ i = 6 ∨ i = 7 ∨ i = 8 ∨ i = 9 ∨ i = 10 by omega) with rfl | rfl | rfl | rfl | rfl | rfl | rfl | rfl | rfl | rfl | rfl
  · refine .inl ?_
    exact fix_value (i := 0) (d := 76) rfl (wanted_none rfl) rfl (by decide) (x_field rfl ((h.old rfl).trans e3) (by simp [go_sem]))
  · refine .inr ?_
    obtain ⟨a0, a1', a2, a3, a4, a5, a6, a7⟩ := hc
    simp only [] at a1' a2 a3 a4 a5 a6 a7
    have f8 : L.getD 8 false = false := by
      cases hq : L.getD 8 false with
      | false => rfl
      | true => exact absurd ((a1' hq).1) (by simp [hf])
    have f10 : L.getD 10 false = false := by
      cases hq : L.getD 10 false with
      | false => rfl
      | true => exact absurd (a2 hq) (by simp [f8])
    have hb0 := a7
    rw [if_neg (by rw [f10]; decide)] at hb0
    have hh0 : w.cell? ⟨gm, 8, none⟩ = some V := by rw [cell_of_row w gm 8 _ _ (0, 0) hb0]; exact hR8
    refine ⟨some 77, by decide, ch_value (i := 1) (v := V) (w' := w) rfl (wanted_none rfl) (x_load rfl (h.get 0 76 (by decide) (hneed 0 (by kernel_rfl))) (by first | (simp [go_sem, hh0]; done) | (simp [go_sem, hh0]; rfl))) ⟨V, rfl, a0, fun y => ?_, fun y => ?_, fun _ => ?_, fun y => ?_, fun y z => ?_, fun y => ?_, ?_⟩⟩
    · simp only [Nat.reduceEqDiff, if_false] at y; rw [f8] at y; cases y
    · simp only [Nat.reduceEqDiff, if_false] at y; rw [f10] at y; cases y
    · rfl
    · exact a4 f8
    · simp only [Nat.reduceEqDiff, if_false, Option.some.injEq] at y ⊢; exact a5 y f8
    · simp only [Nat.reduceEqDiff, if_false] at y; rw [f8] at y; cases y
    · simp only [Nat.reduceEqDiff, if_false, Option.some.injEq]; rw [f10]; exact hb0
  · refine .inl ?_
    exact fix_value (i := 2) (d := 78) rfl (wanted_none rfl) rfl (by decide) (x_move rfl ((h.old rfl).trans e4))
  · refine .inl ?_
    exact fix_value (i := 3) (d := 79) rfl (wanted_none rfl) rfl (by decide) (x_move rfl ((h.old rfl).trans e13))
  · refine .inl ?_
    refine fix_call (i := 4) (d := 80) 69 Try.f69 #[.tmp 78, .tmp 79, .const (.int .i64 4)] _ #[.slice A nz cz, .int .i64 (pz : Int), .int .i64 4] rfl (wanted_none rfl) rfl (by decide) rfl (by simp [(h.get 2 78 (by decide) (hneed 2 (by kernel_rfl))), (h.get 3 79 (by decide) (hneed 3 (by kernel_rfl))), riraVal, Act.eval_const_]) Try.func69 (by kernel_rfl) (by kernel_rfl) ?_
    exact (refget11 bs A cz nz pz 4 w hn (bytes_same hb (fun b o s e _ => hc.1.block b (hoff b o s e).1 (hoff b o s e).2)) hn2 (by omega) (by omega) (by omega)).mono (fun e w' ⟨h1, h2⟩ => ⟨by rw [h1, ← hpx]; rfl, h2 ▸ Below.refl _ _⟩)
  · refine .inl ?_
    exact fix_value (i := 5) (d := 81) rfl (wanted_none rfl) rfl (by decide) (x_conv rfl (h.get 4 80 (by decide) (hneed 4 (by kernel_rfl))) (conv_u32 w px hpl))
  · refine .inl ?_
    refine fix_call (i := 6) (d := 82) 71 Try.f71 #[.tmp 81] _ #[.int .u32 (px : Int)] rfl (wanted_none rfl) rfl (by decide) rfl (by simp [(h.get 5 81 (by decide) (hneed 5 (by kernel_rfl))), riraVal]) Try.func71 (by kernel_rfl) (by kernel_rfl) ?_
    exact (refsigned px (by omega) w).mono (fun e w' ⟨h1, h2⟩ => ⟨by rw [h1, hx]; rfl, h2 ▸ Below.refl _ _⟩)
  · refine .inr ?_
    obtain ⟨a0, a1', a2, a3, a4, a5, a6, a7⟩ := hc
    simp only [] at a1' a2 a3 a4 a5 a6 a7
    have f8 : L.getD 8 false = false := by
      cases hq : L.getD 8 false with
      | false => rfl
      | true => exact absurd ((a1' hq).2) (by simp [hf])
    have f10 : L.getD 10 false = false := by
      cases hq : L.getD 10 false with
      | false => rfl
      | true => exact absurd (a2 hq) (by simp [f8])
    have hb0 := a7
    rw [if_neg (by rw [f10]; decide)] at hb0
    have hba : Below w.heap.size w (w.alloc (.cells #[.int .i32 xv] 21)) := (Below.refl _ _).alloc (Nat.le_refl _) _
    refine ⟨some 83, by decide, ch_oper (i := 7) rfl (wanted_none rfl) ?_⟩
    refine wp_buildSlice 25 21 1 #[(0, .tmp 82)] rfl #[.int .i32 xv] i0 (.int .i32 0) Try.underlying25 hi0 hi1 (by rw [hi2]; decide) (by rw [hi2]; decide) (by rw [hi2]; simp only [List.map_toArray, List.map_cons, List.map_nil]; rw [show a.eval (.tmp 82) = .int .i32 xv from (h.get 6 82 (by decide) (hneed 6 (by kernel_rfl)))]; exact fill_one xv) ?_
    refine ⟨_, rfl, a0.below hba hbase, fun y => ?_, fun y => ?_, fun y => ?_, fun y => ?_, fun y z => ?_, fun y => ?_, ?_⟩
    · simp only [Nat.reduceEqDiff, if_false] at y; rw [f8] at y; cases y
    · simp only [Nat.reduceEqDiff, if_false] at y; rw [f10] at y; cases y
    · simp only [Nat.reduceEqDiff, if_false, Option.some.injEq] at y ⊢; exact a3 y
    · exact own_below (a4 f8) hba
    · simp only [if_true]; exact ⟨w.heap.size, rfl, heap_alloc_new _ _, a0.size⟩
    · simp only [Nat.reduceEqDiff, if_false] at y; rw [f8] at y; cases y
    · simp only [Nat.reduceEqDiff, if_false, Option.some.injEq]; rw [f10]; exact (hba.block _ (Array.getElem?_eq_some_iff.1 hb0).1).trans hb0
  · refine .inr ?_
    obtain ⟨a0, a1', a2, a3, a4, a5, a6, a7⟩ := hc
    simp only [] at a1' a2 a3 a4 a5 a6 a7
    have f10 : L.getD 10 false = false := by
      cases hq : L.getD 10 false with
      | false => rfl
      | true => exact absurd (a2 hq) (by simp [hf])
    have hb0 := a7
    rw [if_neg (by rw [f10]; decide)] at hb0
    have n1 := hneed 1 (by kernel_rfl)
    have n2 := hneed 7 (by kernel_rfl)
    obtain ⟨g, eg, hg, hlg⟩ := a5 n2 hf
    refine ⟨some 84, by decide, ch_oper (i := 8) rfl (wanted_none rfl) ?_⟩
    refine wp_app_any (.tmp 77) (.tmp 83) 25 rfl base 21 i0 (.int .i32 0) 1 4 Try.underlying25 hi0 hi1 hi2 hi3 rfl (by decide) V k xs ((h.old rfl).trans (a3 n1)) (a4 hf) (some ⟨g, 0, none⟩) 1 1 [.int .i32 xv] ((h.old rfl).trans eg) ⟨rfl, fun e => (by cases e), fun ad e j u hu => by injection e with e; subst e; rw [add_at, cell_of_row w g j _ _ (0, 0) hg]; simpa using hu⟩ (fun u hu => by rw [List.mem_singleton] at hu; subst hu; rfl) (by unfold maxLen; omega) (by omega) (by have := a0.size; omega) ?_
    intro v' w' hown' hgr
    have hvb : ∀ b, V.ownBlock = some b → base ≤ b := fun b hb => ((a4 hf).lt b hb).1
    refine ⟨_, rfl, ⟨hgr.os.trans a0.os, hgr.tape.trans a0.tape, hgr.output.trans a0.output, Nat.le_trans a0.size hgr.size, fun b h1 h2 => (hgr.block b (by have := a0.size; omega) (fun e => by have := hvb b e.symm; omega)).trans (a0.block b h1 h2)⟩, fun y => ?_, fun y => ?_, fun y => ?_, fun y => ?_, fun y z => ?_, fun y => ?_, ?_⟩
    · simp only [Nat.reduceEqDiff, if_false]; exact ⟨n1, n2⟩
    · simp only [if_true]
    · simp only [Nat.reduceEqDiff, if_false, Option.some.injEq] at y ⊢; exact a3 y
    · simp only [if_true] at y; cases y
    · simp only [if_true] at z; cases z
    · simp only [if_true]; exact hown'
    · simp only [Nat.reduceEqDiff, if_false, if_true]; rw [f10]; exact (hgr.block gm (Array.getElem?_eq_some_iff.1 hb0).1 (fun e => by have := hvb gm e.symm; omega)).trans hb0
  · refine .inl ?_
    exact fix_value (i := 9) (d := 85) rfl (wanted_none rfl) rfl (by decide) (x_field rfl ((h.old rfl).trans e3) (by simp [go_sem]))
  · refine .inr ?_
    obtain ⟨a0, a1', a2, a3, a4, a5, a6, a7⟩ := hc
    simp only [] at a1' a2 a3 a4 a5 a6 a7
    have n5 := hneed 8 (by kernel_rfl)
    have hb0 := a7
    rw [if_neg (by rw [hf]; decide)] at hb0
    have ho := a6 n5
    obtain ⟨A9, c9, e9⟩ := own_slice ho
    have hne : (a1.eval (.tmp 84)).ownBlock ≠ some gm := fun e => by have := (ho.lt gm e).1; omega
    refine ⟨none, by decide, ch_oper (i := 10) rfl (wanted_none rfl) ?_⟩
    refine wp_store_slice _ _ _ rfl gm 8 A9 (k + 1) c9 (h.get 9 85 (by decide) (hneed 9 (by kernel_rfl))) ((h.old rfl).trans e9) hb0 (by rw [hRs]; decide) hsz25 ?_
    rw [← e9]
    have hgs := grown_setCell w gm 8 (a1.eval (.tmp 84))
    refine ⟨undef, rfl, ⟨a0.os, a0.tape, a0.output, by simpa using a0.size, fun b h1 h2 => (heap_setCell_other _ _ _ _ (by simpa using h2)).trans (a0.block b h1 h2)⟩, fun y => ?_, fun y => ?_, fun y => ?_, fun y => ?_, fun y z => ?_, fun y => ?_, ?_⟩
    · exact a1' n5
    · exact n5
    · simp only [Nat.reduceEqDiff, if_false] at y ⊢; exact a3 y
    · simp only [Nat.reduceEqDiff, if_false] at y; rw [n5] at y; cases y
    · simp only [Nat.reduceEqDiff, if_false] at z; rw [n5] at z; cases z
    · simp only []; exact ho.kept hgs (.inr hne)
    · simp only [if_true]; exact heap_setCell_same _ gm 8 _ _ _ hb0
end Go.Proofs.Ytjhopgmionpkoaa
namespace Go.Proofs.Ytjhopgmionpkoaa
set_option maxRecDepth 20000
open Go.RowKit Mem

theorem words4_at : ∀ (k : Nat) (x : Ia.Bs), 4 * k + 4 ≤ x.length → (words4 x)[k]? = some (Ia.signedN (word x (4 * k) 4))
  | k, [], h => by simp at h
  | k, [_], h => by simp at h
  | k, [_, _], h => by simp at h
  | k, [_, _, _], h => by simp at h
  | 0, a :: b :: c :: d :: r, h => by
    simp only [words4, List.getElem?_cons_zero]
    unfold word
    rw [if_pos h]
    rfl
  | k + 1, a :: b :: c :: d :: r, h => by
    simp only [List.length_cons] at h
    have ih := words4_at k r (by omega)
    simp only [words4, List.getElem?_cons_succ]
    rw [ih]
    congr 2
    unfold word
    rw [if_pos (by omega), if_pos (by simp only [List.length_cons]; omega)]
    congr 2
theorem words4_size : ∀ x : Ia.Bs, (words4 x).length = x.length / 4
  | [] => rfl
  | [_] => by simp [words4]
  | [_, _] => by simp [words4]
  | [_, _, _] => by simp [words4]
  | a :: b :: c :: d :: r => by
    simp only [words4, List.length_cons, words4_size r]
    omega
theorem refgetN (bs : Ia.Bs) (A : Option Addr) (c p wd : Nat) (w : World) (hA : BytesAt w A bs) (hl : bs.length ≤ 1000000) (h1 : 1 ≤ wd) (h4 : wd ≤ 4) (hp : p ≤ 2000000) :
    Calls Try.prog 69 #[.slice A bs.length c, .int .i64 p, .int .i64 wd] w fun e w' => ∃ n : Nat, n = word bs p wd ∧ (n : Int) ≤ 4294967295 ∧ e = .returned (.int .i64 n) ∧ w = w' := by
  refine (refget11 bs A c bs.length p wd w rfl hA hl h1 h4 hp).mono ?_
  rintro e w' ⟨he, hw⟩
  have hlt : (word bs p wd : Int) ≤ 4294967295 := by
    have h2 := word_lt bs p wd
    have h3 : (256 : Nat) ^ wd ≤ 256 ^ 4 := Nat.pow_le_pow_right (by omega) h4
    omega
  exact ⟨_, rfl, hlt, he, hw⟩
theorem runL_len (bs : Ia.Bs) (p : Nat) : (runL bs p).1.length ≤ bs.length ∧ (runL bs p).2 ≤ bs.length := by
  unfold runL runAt
  split
  · simp; omega
  · simp
def RdLPost (bs : Ia.Bs) (w : World) (e : Ending) (w' : World) : Prop :=
  ∃ A1 A2 A3 c1 c2 c3, e = .returned (imAgg (rdL bs) A1 A2 A3 c1 c2 c3) ∧ ImNew w.heap.size w' (rdL bs) A1 A2 A3 c1 c2 c3 ∧ Below w.heap.size w w'
set_option maxRecDepth 100000 in
set_option maxHeartbeats 16000000 in
theorem refimread (bs : Ia.Bs) (A : Option Addr) (c : Nat) (w : World) (hA : BytesAt w A bs) (hc : bs.length ≤ c) (hn : bs.length ≤ 1000000) :
    Calls Try.prog 34 #[.slice A bs.length c] w (RdLPost bs w) := by
  have HA := Lib.hid hA
  have HBF : Hid (∀ X Y, Below w.heap.size w ((w.alloc X).alloc Y)) := fun X Y => ((Below.refl _ _).alloc (Nat.le_refl _) X).alloc (by simp) Y
  clear hA
  go_enter Try.func34, Try.ntmps34
  go_wp2_with fail
  refine (refgetN bs A c 4 4 _ (HA.out.below (HBF.out _ _) (Nat.le_refl _)) hn (by omega) (by omega) (by omega)).mono ?_
  rintro e wn ⟨n0, hn0, hlt0, rfl, rfl⟩
  have HN0 := Lib.hid hn0
  clear hn0
  go_wp2_with fail
  refine (refgetN bs A c 8 4 _ (HA.out.below (HBF.out _ _) (Nat.le_refl _)) hn (by omega) (by omega) (by omega)).mono ?_
  rintro e wn ⟨n1, hn1, hlt1, rfl, rfl⟩
  have HN1 := Lib.hid hn1
  clear hn1
  go_wp2_with fail
  refine (refgetN bs A c 12 1 _ (HA.out.below (HBF.out _ _) (Nat.le_refl _)) hn (by omega) (by omega) (by omega)).mono ?_
  rintro e wn ⟨n2, hn2, hlt2, rfl, rfl⟩
  have HN2 := Lib.hid hn2
  clear hn2
  go_wp2_with fail
  refine (refgetN bs A c 13 1 _ (HA.out.below (HBF.out _ _) (Nat.le_refl _)) hn (by omega) (by omega) (by omega)).mono ?_
  rintro e wn ⟨n3, hn3, hlt3, rfl, rfl⟩
  have HN3 := Lib.hid hn3
  clear hn3
  go_wp2_with fail
  refine (refgetN bs A c 14 1 _ (HA.out.below (HBF.out _ _) (Nat.le_refl _)) hn (by omega) (by omega) (by omega)).mono ?_
  rintro e wn ⟨n4, hn4, hlt4, rfl, rfl⟩
  have HN4 := Lib.hid hn4
  clear hn4
  go_wp2_with fail
  refine (refgetN bs A c 14 1 _ (HA.out.below (HBF.out _ _) (Nat.le_refl _)) hn (by omega) (by omega) (by omega)).mono ?_
  rintro e wn ⟨n5, hn5, hlt5, rfl, rfl⟩
  have HN5 := Lib.hid hn5
  clear hn5
  go_wp2_with fail
  refine (refgetN bs A c 15 1 _ (HA.out.below (HBF.out _ _) (Nat.le_refl _)) hn (by omega) (by omega) (by omega)).mono ?_
  rintro e wn ⟨n6, hn6, hlt6, rfl, rfl⟩
  have HN6 := Lib.hid hn6
  clear hn6
  go_wp2_with fail
  refine (refgetN bs A c 16 1 _ (HA.out.below (HBF.out _ _) (Nat.le_refl _)) hn (by omega) (by omega) (by omega)).mono ?_
  rintro e wn ⟨n7, hn7, hlt7, rfl, rfl⟩
  have HN7 := Lib.hid hn7
  clear hn7
  go_wp2_with fail
  refine (refgetN bs A c 17 2 _ (HA.out.below (HBF.out _ _) (Nat.le_refl _)) hn (by omega) (by omega) (by omega)).mono ?_
  rintro e wn ⟨n8, hn8, hlt8, rfl, rfl⟩
  have HN8 := Lib.hid hn8
  clear hn8
  go_wp2_with fail
  refine (refgetN bs A c 19 2 _ (HA.out.below (HBF.out _ _) (Nat.le_refl _)) hn (by omega) (by omega) (by omega)).mono ?_
  rintro e wn ⟨n9, hn9, hlt9, rfl, rfl⟩
  have HN9 := Lib.hid hn9
  clear hn9
  go_wp2_with fail
  obtain ⟨gm, hgm⟩ : ∃ g, g = w.heap.size + 1 := ⟨_, rfl⟩
  obtain ⟨W0, hW0⟩ : ∃ W0, W0 = (w.alloc (.cells #[.int .u32 0, .int .u32 0, .int .i64 0, .int .i64 0, .int .i64 0, .int .i64 0, .int .i64 0, .int .i64 0, .slice none 0 0, .slice none 0 0, .slice none 0 0, .int .i64 0, .int .i64 0] 28)).alloc (.cells #[.int .u32 (n0 : Int), .int .u32 (n1 : Int), .int .i64 (n2 : Int), .int .i64 (n3 : Int), .int .i64 (n4 : Int), .int .i64 (n5 : Int), .int .i64 (n6 : Int), .int .i64 (n7 : Int), .slice none 0 0, .slice none 0 0, .slice none 0 0, .int .i64 (n8 : Int), .int .i64 (n9 : Int)] 28) := ⟨_, rfl⟩
  rw [← hW0, ← hgm]
  have HZ0 : Hid (W0.heap[w.heap.size]? = some (.cells #[.int .u32 0, .int .u32 0, .int .i64 0, .int .i64 0, .int .i64 0, .int .i64 0, .int .i64 0, .int .i64 0, .slice none 0 0, .slice none 0 0, .slice none 0 0, .int .i64 0, .int .i64 0] 28 (0, 0))) := by unfold RowKit.Hid; rw [hW0]; exact heap_alloc2_old _ _ _
  have HR0 : Hid (W0.heap[gm]? = some (.cells #[.int .u32 (n0 : Int), .int .u32 (n1 : Int), .int .i64 (n2 : Int), .int .i64 (n3 : Int), .int .i64 (n4 : Int), .int .i64 (n5 : Int), .int .i64 (n6 : Int), .int .i64 (n7 : Int), .slice none 0 0, .slice none 0 0, .slice none 0 0, .int .i64 (n8 : Int), .int .i64 (n9 : Int)] 28 (0, 0))) := by unfold RowKit.Hid; rw [hW0, hgm]; exact heap_alloc2_new _ _ _
  have HB0 : Hid (Below w.heap.size w W0) := by unfold RowKit.Hid; rw [hW0]; exact HBF.out _ _
  have hgm0 : gm = w.heap.size + 1 := hgm
  have HGM := Lib.hid hgm0
  have hgl0 : w.heap.size < gm := by omega
  have hgz0 : gm < W0.heap.size := (Array.getElem?_eq_some_iff.1 HR0.out).1
  clear hW0 hgm hgm0
  obtain ⟨hq1, hq2⟩ := runL_len bs 21
  have hr1 := fun W h => refgetrunL bs A c 21 W h hc hn (by omega)
  generalize hrl1 : runL bs 21 = r1 at hr1 hq1 hq2
  obtain ⟨x1, p1⟩ := r1
  dsimp only at hr1 hq1 hq2
  have HG1 := Lib.hid hr1
  have HRL1 := Lib.hid hrl1
  clear hr1 hrl1
  refine (HG1.out _ (HA.out.below HB0.out (Nat.le_refl _))).mono ?_
  rintro e w1 ⟨B1, d1, er1, rfl, hx1, hd1, hb1, ho1⟩
  have HX1 := Lib.hid hx1
  have HO1 := Lib.hid ho1
  have HZ1 := Lib.hid ((hb1.block _ (Array.getElem?_eq_some_iff.1 HZ0.out).1).trans HZ0.out)
  have HR1 := Lib.hid ((hb1.block _ (Array.getElem?_eq_some_iff.1 HR0.out).1).trans HR0.out)
  have HB1 := Lib.hid (HB0.out.trans (hb1.mono HB0.out.size))
  have hz1 := hb1.size
  clear hx1 ho1 hb1 HG1 HZ0 HR0 HB0
  obtain ⟨hq3, hq4⟩ := runL_len bs p1
  have hr2 := fun W h => refgetrunL bs A c p1 W h hc hn (by omega)
  generalize hrl2 : runL bs p1 = r2 at hr2 hq3 hq4
  obtain ⟨x2, p2⟩ := r2
  dsimp only at hr2 hq3 hq4
  have HG2 := Lib.hid hr2
  have HRL2 := Lib.hid hrl2
  clear hr2 hrl2
  go_wp2_with fail
  refine (HG2.out _ (HA.out.below HB1.out (Nat.le_refl _))).mono ?_
  rintro e w2 ⟨B2, d2, er2, rfl, hx2, hd2, hb2, ho2⟩
  have HX1b := Lib.hid (HX1.out.below hb2 (Nat.le_refl _))
  have HX2 := Lib.hid hx2
  have HO2 := Lib.hid ho2
  have HZ2 := Lib.hid ((hb2.block _ (Array.getElem?_eq_some_iff.1 HZ1.out).1).trans HZ1.out)
  have HR2 := Lib.hid ((hb2.block _ (Array.getElem?_eq_some_iff.1 HR1.out).1).trans HR1.out)
  have HB2 := Lib.hid (HB1.out.trans (hb2.mono HB1.out.size))
  have hz2 := hb2.size
  clear hx2 ho2 hb2 HG2 HZ1 HR1 HB1 HX1
  obtain ⟨hq5, hq6⟩ := runL_len bs p2
  have hr3 := fun W h => refgetrunL bs A c p2 W h hc hn (by omega)
  generalize hrl3 : runL bs p2 = r3 at hr3 hq5 hq6
  obtain ⟨x3, p3⟩ := r3
  dsimp only at hr3 hq5 hq6
  have HG3 := Lib.hid hr3
  have HRL3 := Lib.hid hrl3
  clear hr3 hrl3
  go_wp2_with fail
  refine (HG3.out _ (HA.out.below HB2.out (Nat.le_refl _))).mono ?_
  rintro e Wl ⟨B3, d3, er3, rfl, hx3, hd3, hb3, ho3⟩
  have HX1l := Lib.hid (HX1b.out.below hb3 (Nat.le_refl _))
  have HX2l := Lib.hid (HX2.out.below hb3 (Nat.le_refl _))
  have HX3l := Lib.hid hx3
  have HZl := Lib.hid ((hb3.block _ (Array.getElem?_eq_some_iff.1 HZ2.out).1).trans HZ2.out)
  have HIl := Lib.hid ((hb3.block _ (Array.getElem?_eq_some_iff.1 HR2.out).1).trans HR2.out)
  have HBl := Lib.hid (HB2.out.trans (hb3.mono HB2.out.size))
  have hz3 := hb3.size
  have HL10 : Hid (∀ b o s, B1 = some ⟨b, o, s⟩ → b ≠ gm) := fun b o s e => by have := HO1.out b o s e; omega
  have HL11 : Hid (∀ b o s, B2 = some ⟨b, o, s⟩ → b ≠ gm) := fun b o s e => by have := HO2.out b o s e; omega
  have HL12 : Hid (∀ b o s, B3 = some ⟨b, o, s⟩ → b ≠ gm) := fun b o s e => by have := ho3 b o s e; omega
  have HLO1 : Hid (∀ b o s, B1 = some ⟨b, o, s⟩ → 0 < x1.length → b < Wl.heap.size) := fun b o s e h => by
    have hc0 := HX1l.out.some _ e 0 _ (bcells_at x1 0 h)
    have := World.block_lt_of_cell? _ _ hc0
    unfold Addr.add at this
    split at this <;> exact this
  clear hx3 ho3 hb3 HG3 HZ2 HR2 HB2 HX1b HX2 HO1 HO2 hd1 hd2 hd3
  obtain ⟨ws, hws⟩ : ∃ l, l = words4 x1 := ⟨_, rfl⟩
  have hwl : ws.length = x1.length / 4 := by rw [hws]; exact words4_size x1
  have HWA : Hid (∀ k, 4 * k + 4 ≤ x1.length → ws[k]? = some (Ia.signedN (word x1 (4 * k) 4))) := fun k h => by rw [hws]; exact words4_at k x1 h
  have HWS := Lib.hid hws
  have HWL := Lib.hid hwl
  clear hws hwl
  go_wp2_with fail
  go_loopw [13] (fun i wr => ∃ (k : Nat) (V : Value), 4 * k ≤ x1.length ∧ i = .int .i64 (4 * (k : Int)) ∧ Hid (wr.ownsRow Wl.heap.size 21 1 V k (icells (ws.take k))) ∧ Hid (wr.heap[gm]? = some (.cells #[.int .u32 (n0 : Int), .int .u32 (n1 : Int), .int .i64 (n2 : Int), .int .i64 (n3 : Int), .int .i64 (n4 : Int), .int .i64 (n5 : Int), .int .i64 (n6 : Int), .int .i64 (n7 : Int), V, .slice none 0 0, .slice none 0 0, .int .i64 (n8 : Int), .int .i64 (n9 : Int)] 28 (0, 0))) ∧ Hid (ImraF Wl.heap.size gm Wl wr)) (fun i _ => x1.length + 4 - (intOf i).toNat)
  case atStart => exact ⟨0, .slice none 0 0, Nat.zero_le _, rfl, World.ownsRow_nil _ _ _ _, HIl, ⟨rfl, rfl, rfl, Nat.le_refl _, fun _ _ _ => rfl⟩⟩
  case round =>
    obtain ⟨k, V, hk, rfl, hO, hR, hF⟩ := hrel
    by_cases hlt : 4 * k + 4 ≤ x1.length
    · have hlt2 : 4 * (k : Int) + 4 ≤ (x1.length : Int) := by omega
      have hku : k < ws.length := by rw [HWL.out]; omega
      have HXV : Hid (icells (ws.take (k + 1)) = icells (ws.take k) ++ [.int .i32 (Ia.signedN (word x1 (4 * k) 4))]) := by
        unfold RowKit.Hid
        have h2 := HWA.out k hlt
        rw [List.getElem?_eq_getElem hku] at h2
        injection h2 with h2
        rw [List.take_succ_eq_append_getElem hku, h2]
        simp [icells]
      have HBA := Lib.hid (bytes_same (BSrc.at_ HX1l.out) (fun b o s e hb => hF.out.block b hb (HL10.out b o s e)))
      have HFF : Hid (∀ b o s, B1 = some ⟨b, o, s⟩ → b < Wl.heap.size ∧ b ≠ gm) := fun b o s e => ⟨HLO1.out b o s e (by omega), HL10.out b o s e⟩
      go_wp2_with fail
      refine wp_region_any (by kernel_rfl) ?_
      refine wpAny_by (ops' := riraOps) (by kernel_rfl) ?_
      refine riraRegion _ wr ?hs gm k Wl.heap.size #[.int .u32 (n0 : Int), .int .u32 (n1 : Int), .int .i64 (n2 : Int), .int .i64 (n3 : Int), .int .i64 (n4 : Int), .int .i64 (n5 : Int), .int .i64 (n6 : Int), .int .i64 (n7 : Int), V, .slice none 0 0, .slice none 0 0, .int .i64 (n8 : Int), .int .i64 (n9 : Int)] V (icells (ws.take k)) (Ia.signedN (word x1 (4 * k) 4)) rfl rfl (by omega) hF.out.size (by omega) hR.out hO.out B1 d1 x1.length (4 * k) (word x1 (4 * k) 4) x1 HBA.out HFF.out rfl (by omega) (by omega) rfl rfl rfl rfl rfl ?_
      case hs => simp
      rintro vs w9 ⟨hf9, _, _, _, _, _, ho9, hr9⟩
      have ho9 := ho9 rfl
      rw [if_pos rfl] at hr9
      rw [← HXV.out] at ho9
      simp only [List.setIfInBounds_toArray, List.set_cons_zero, List.set_cons_succ] at hr9
      simp only [riraSlots, List.foldl_cons, List.foldl_nil]
      simp only [riraVal]
      simp only [Act.put, List.setIfInBounds_toArray, List.set_cons_zero, List.set_cons_succ]
      have HO9 := Lib.hid ho9
      have HR9 := Lib.hid hr9
      have HF9 : Hid (ImraF Wl.heap.size gm Wl w9) := ⟨hf9.os.trans hF.out.os, hf9.tape.trans hF.out.tape, hf9.output.trans hF.out.output, Nat.le_trans hF.out.size hf9.size, fun b h1 h2 => (hf9.block b h1 h2).trans (hF.out.block b h1 h2)⟩
      clear ho9 hr9 hf9
      go_wp2_with fail
      go_roundw
      case rel => exact ⟨k + 1, vs 84, by omega, by go_num, HO9, HR9, HF9⟩
      case measure => simp [intOf]; omega
    · have hlt2 : ¬ 4 * (k : Int) + 4 ≤ (x1.length : Int) := by omega
      have hkn : k = ws.length := by rw [HWL.out]; omega
      have ho := hO.out
      rw [List.take_of_length_le (by omega)] at ho
      have HKN := Lib.hid hkn
      clear hkn
      obtain ⟨A1, c1, rfl⟩ := own_slice ho
      have HO1 := Lib.hid ho
      have hzw := HBl.out.size
      have hwr := hF.out.size
      have hgl : gm < Wl.heap.size := by omega
      have hzl1 : w.heap.size < Wl.heap.size := (Array.getElem?_eq_some_iff.1 HZl.out).1
      have HX2m := Lib.hid (src_same HX2l.out (fun b o s e hb => hF.out.block b hb (HL11.out b o s e)))
      have HX3m := Lib.hid (src_same HX3l.out (fun b o s e hb => hF.out.block b hb (HL12.out b o s e)))
      have HZm := Lib.hid ((hF.out.block w.heap.size hzl1 (by omega)).trans HZl.out)
      have HBm : Hid (Below w.heap.size w wr) := ⟨hF.out.os.trans HBl.out.os, hF.out.tape.trans HBl.out.tape, hF.out.output.trans HBl.out.output, by omega, fun b hb => (hF.out.block b (by omega) (by omega)).trans (HBl.out.block b hb)⟩
      have HRm : Hid (wr.heap[gm]? = some (.cells #[.int .u32 (n0 : Int), .int .u32 (n1 : Int), .int .i64 (n2 : Int), .int .i64 (n3 : Int), .int .i64 (n4 : Int), .int .i64 (n5 : Int), .int .i64 (n6 : Int), .int .i64 (n7 : Int), .slice A1 k c1, .slice none 0 0, .slice none 0 0, .int .i64 (n8 : Int), .int .i64 (n9 : Int)] 28 (0, 0))) := hR.out
      clear ho hO hR hF HZl HBl HX2l HX3l HIl HX1l
      have hd2 := refdecode x2 B2 d2 wr (BSrc.at_ HX2m.out) (by omega)
      generalize hde2 : Ia.decode x2 = r2 at hd2
      obtain ⟨l2, e2, p2'⟩ := r2
      dsimp only at hd2
      have HD2 := Lib.hid hd2
      have HDE2 := Lib.hid hde2
      clear hd2 hde2
      go_wp2_with fail
      refine HD2.out.mono ?_
      rintro e wd2 ⟨v2, rfl, hown2, hb2⟩
      obtain ⟨A2, c2, rfl⟩ := own_slice hown2
      have HO1b := Lib.hid (own_below HO1.out hb2)
      have HO2b := Lib.hid (own_base hown2 (show Wl.heap.size ≤ wr.heap.size by omega))
      have HX3b := Lib.hid (Src.below HX3m.out hb2 (Nat.le_refl _))
      have HZb := Lib.hid ((hb2.block _ (Array.getElem?_eq_some_iff.1 HZm.out).1).trans HZm.out)
      have HRb := Lib.hid ((hb2.block _ (Array.getElem?_eq_some_iff.1 HRm.out).1).trans HRm.out)
      have HBb := Lib.hid (HBm.out.trans (hb2.mono HBm.out.size))
      have hw2 := hb2.size
      clear hown2 hb2 HO1 HX3m HZm HRm HBm HD2 HX2m
      have hd3 := fun W h => refdecode x3 B3 d3 W h (by omega)
      generalize hde3 : Ia.decode x3 = r3 at hd3
      obtain ⟨l3, e3, p3'⟩ := r3
      dsimp only at hd3
      have HD3 := Lib.hid hd3
      have HDE3 := Lib.hid hde3
      clear hd3 hde3
      go_wp2_with fail
      refine (HD3.out _ (BSrc.at_ HX3b.out)).mono ?_
      rintro e wd3 ⟨v3, rfl, hown3, hb3⟩
      obtain ⟨A3, c3, rfl⟩ := own_slice hown3
      have HO1d := Lib.hid (own_below HO1b.out hb3)
      have HO2d := Lib.hid (own_below HO2b.out hb3)
      have HO3d := Lib.hid (own_base hown3 (show Wl.heap.size ≤ wd2.heap.size by omega))
      have HZd := Lib.hid ((hb3.block _ (Array.getElem?_eq_some_iff.1 HZb.out).1).trans HZb.out)
      have hrow3 := (hb3.block _ (Array.getElem?_eq_some_iff.1 HRb.out).1).trans HRb.out
      have HBd := Lib.hid (HBb.out.trans (hb3.mono HBb.out.size))
      have cj : wd3.cell? ⟨gm, 9, none⟩ = some (.slice none 0 0) := cell_of_row _ _ 9 _ _ (0, 0) hrow3
      have cj2 : (wd3.setCell ⟨gm, 9, none⟩ (.slice A2 l2.length c2)).cell? ⟨gm, 10, none⟩ = some (.slice none 0 0) := by rw [cell_of_row _ _ 10 _ _ (0, 0) (heap_setCell_same _ gm 9 _ _ (.slice A2 l2.length c2) hrow3)]; rfl
      have fj : ∀ j, wd3.frozen? ⟨gm, j, none⟩ = false := fun j => frozen_of_row _ _ _ _ _ hrow3
      have fj2 : ∀ j, (wd3.setCell ⟨gm, 9, none⟩ (.slice A2 l2.length c2)).frozen? ⟨gm, j, none⟩ = false := fun j => frozen_of_row _ _ _ _ _ (heap_setCell_same _ gm 9 _ _ (.slice A2 l2.length c2) hrow3)
      obtain ⟨W7, hW7⟩ : ∃ W, W = (wd3.setCell ⟨gm, 9, none⟩ (.slice A2 l2.length c2)).setCell ⟨gm, 10, none⟩ (.slice A3 l3.length c3) := ⟨_, rfl⟩
      have HW7 := Lib.hid hW7
      have hg7 : wd3.grownBy W7 (some gm) := by rw [hW7]; exact World.grownBy.trans (grown_setCell _ _ _ _) (grown_setCell _ _ _ _)
      have HG7 := Lib.hid hg7
      have HZ7 := Lib.hid (other_by hg7 (show w.heap.size ≠ gm by omega) HZd.out)
      have HR7 : Hid (W7.heap[gm]? = some (.cells #[.int .u32 (n0 : Int), .int .u32 (n1 : Int), .int .i64 (n2 : Int), .int .i64 (n3 : Int), .int .i64 (n4 : Int), .int .i64 (n5 : Int), .int .i64 (n6 : Int), .int .i64 (n7 : Int), .slice A1 k c1, .slice A2 l2.length c2, .slice A3 l3.length c3, .int .i64 (n8 : Int), .int .i64 (n9 : Int)] 28 (0, 0))) := by unfold RowKit.Hid; rw [hW7]; have := heap_setCell_same _ gm 10 _ _ (.slice A3 l3.length c3) (heap_setCell_same _ gm 9 _ _ (.slice A2 l2.length c2) hrow3); simpa using this
      have HB7 : Hid (Below w.heap.size w W7) := by unfold RowKit.Hid; rw [hW7]; exact (HBd.out.setCell (by dsimp only; omega) _).setCell (by dsimp only; omega) _
      clear hown3 hb3 hrow3 HD3 HZd HBd hg7 hW7 HZb HRb HBb HO1b HO2b
      have HIM : Hid (imAgg (rdL bs) A1 A2 A3 c1 c2 c3 = .agg #[.int .u32 (n0 : Int), .int .u32 (n1 : Int), .int .i64 (n2 : Int), .int .i64 (n3 : Int), .int .i64 (n4 : Int), .int .i64 (n5 : Int), .int .i64 (n6 : Int), .int .i64 (n7 : Int), .slice A1 k c1, .slice A2 l2.length c2, .slice A3 l3.length c3, .int .i64 (n8 : Int), .int .i64 (n9 : Int)]) := by
        unfold RowKit.Hid imAgg rdL imOf
        dsimp only
        rw [HRL1.out]
        dsimp only
        rw [HRL2.out]
        dsimp only
        rw [HRL3.out]
        dsimp only
        rw [HDE2.out, HDE3.out, ← HN0.out, ← HN1.out, ← HN2.out, ← HN3.out, ← HN4.out, ← HN6.out, ← HN7.out, ← HN8.out, ← HN9.out, HKN.out, ← HWS.out, HN4.out.trans HN5.out.symm]
      have HFI : Hid ((rdL bs).first = ws ∧ (rdL bs).step = l2 ∧ (rdL bs).move = l3) := by
        unfold RowKit.Hid rdL imOf
        dsimp only
        rw [HRL1.out]
        dsimp only
        rw [HRL2.out]
        dsimp only
        rw [HRL3.out]
        dsimp only
        rw [HDE2.out, HDE3.out]
        exact ⟨HWS.out.symm, rfl, rfl⟩
      have hone : (#[.int .u32 (n0 : Int), .int .u32 (n1 : Int), .int .i64 (n2 : Int), .int .i64 (n3 : Int), .int .i64 (n4 : Int), .int .i64 (n5 : Int), .int .i64 (n6 : Int), .int .i64 (n7 : Int), .slice A1 k c1, .slice A2 l2.length c2, .slice A3 l3.length c3, .int .i64 (n8 : Int), .int .i64 (n9 : Int)] : Array Value).all (·.oneCell') = true := by simp [Value.oneCell']
      have HONE := Lib.hid hone
      clear hone
      go_upto_region 19 with fail
      rw [← HW7.out]
      clear cj cj2 fj fj2
      go_wp2_with (first | refine wpList_load_row rfl 28 (.tmp 3) rfl gm rfl _ _ _ _ HR7.out Try.underlying28 rfl infoImS ?_ | refine wpList_store_row rfl 28 (.tmp 2) (.tmp 102) rfl w.heap.size _ rfl rfl _ _ HZ7.out infoImS rfl HONE.out ?_)
      refine bodyPost_ret (v := .agg #[.int .u32 (n0 : Int), .int .u32 (n1 : Int), .int .i64 (n2 : Int), .int .i64 (n3 : Int), .int .i64 (n4 : Int), .int .i64 (n5 : Int), .int .i64 (n6 : Int), .int .i64 (n7 : Int), .slice A1 k c1, .slice A2 l2.length c2, .slice A3 l3.length c3, .int .i64 (n8 : Int), .int .i64 (n9 : Int)]) (results_cell_row (P := Try.prog) rfl _ _ w.heap.size _ _ _ _ rfl (setRow_heap _ _ _ #[.int .u32 (n0 : Int), .int .u32 (n1 : Int), .int .i64 (n2 : Int), .int .i64 (n3 : Int), .int .i64 (n4 : Int), .int .i64 (n5 : Int), .int .i64 (n6 : Int), .int .i64 (n7 : Int), .slice A1 k c1, .slice A2 l2.length c2, .slice A3 l3.length c3, .int .i64 (n8 : Int), .int .i64 (n9 : Int)] _ _ HZ7.out) Try.underlying28 rfl (by rw [infoImS]; rfl)) rfl ?_
      refine ⟨A1, A2, A3, c1, c2, c3, by rw [HIM.out], ⟨?_, ?_, ?_⟩, below_setRow_ HB7.out (Nat.le_refl _)⟩
      · have h1 := (HO1d.out.kept HG7.out (.inr (fun e => by have := (HO1d.out.lt gm e).1; omega))).kept (grown_setRow _ w.heap.size #[.int .u32 (n0 : Int), .int .u32 (n1 : Int), .int .i64 (n2 : Int), .int .i64 (n3 : Int), .int .i64 (n4 : Int), .int .i64 (n5 : Int), .int .i64 (n6 : Int), .int .i64 (n7 : Int), .slice A1 k c1, .slice A2 l2.length c2, .slice A3 l3.length c3, .int .i64 (n8 : Int), .int .i64 (n9 : Int)]) (.inr (fun e => by have := (HO1d.out.lt _ e).1; omega))
        rw [HFI.out.1, ← HKN.out]
        exact own_base h1 (by omega)
      · have h1 := (HO2d.out.kept HG7.out (.inr (fun e => by have := (HO2d.out.lt gm e).1; omega))).kept (grown_setRow _ w.heap.size #[.int .u32 (n0 : Int), .int .u32 (n1 : Int), .int .i64 (n2 : Int), .int .i64 (n3 : Int), .int .i64 (n4 : Int), .int .i64 (n5 : Int), .int .i64 (n6 : Int), .int .i64 (n7 : Int), .slice A1 k c1, .slice A2 l2.length c2, .slice A3 l3.length c3, .int .i64 (n8 : Int), .int .i64 (n9 : Int)]) (.inr (fun e => by have := (HO2d.out.lt _ e).1; omega))
        rw [HFI.out.2.1]
        exact own_base h1 (by omega)
      · have h1 := (HO3d.out.kept HG7.out (.inr (fun e => by have := (HO3d.out.lt gm e).1; omega))).kept (grown_setRow _ w.heap.size #[.int .u32 (n0 : Int), .int .u32 (n1 : Int), .int .i64 (n2 : Int), .int .i64 (n3 : Int), .int .i64 (n4 : Int), .int .i64 (n5 : Int), .int .i64 (n6 : Int), .int .i64 (n7 : Int), .slice A1 k c1, .slice A2 l2.length c2, .slice A3 l3.length c3, .int .i64 (n8 : Int), .int .i64 (n9 : Int)]) (.inr (fun e => by have := (HO3d.out.lt _ e).1; omega))
        rw [HFI.out.2.2]
        exact own_base h1 (by omega)
end Go.Proofs.Ytjhopgmionpkoaa
