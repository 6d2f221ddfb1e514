/-
  The closures of lay: a number, and a run, behind the bytes so far.
  The bytes of an image: the function lay.
  The bytes of an image, by the reference.
  An image in bytes: Encode of image and of its reference.
-/
import Derived.Test.YtjhopgmionpkoaaIm1
import Derived.Test.YtjhopgmionpkoaaCells
import Derived.Lib.SlBytesConst
import Derived.Lib.SmallJoins
import Derived.Outline
import Derived.Test.YtjhopgmionpkoaaIm2
namespace Go.Proofs.Ytjhopgmionpkoaa
set_option maxRecDepth 20000
open Go.RowKit Mem

/-- the variable gb holds these bytes; nothing of them lies in gb or gk -/
def LayAt (w : World) (gb gk : Nat) (bs : Ia.Bs) : Prop :=
  ∃ A c, w.heap[gb]? = some (.cells #[.slice A bs.length c] 31 (0, 0)) ∧ BSrc w A c bs ∧ bs.length ≤ c ∧ ∀ b o s, A = some ⟨b, o, s⟩ → b ≠ gb ∧ b ≠ gk
theorem LayAt.below {w w' : World} {gb gk : Nat} {bs : Ia.Bs} (h : LayAt w gb gk bs) (hb : Below w.heap.size w w') : LayAt w' gb gk bs := by
  obtain ⟨A, c, h1, h2, h3, h4⟩ := h
  exact ⟨A, c, (hb.block _ (Array.getElem?_eq_some_iff.1 h1).1).trans h1, h2.below hb (Nat.le_refl _), h3, h4⟩
theorem grown_of_below_ {w w' : World} {row : Option Nat} (h : Below w.heap.size w w') : w.grownBy w' row := ⟨h.os, h.tape, h.output, h.size, fun k hk _ => h.block k hk⟩
theorem own_len {w : World} {base : Nat} {e : TypeId} {size : Nat} {A : Option Addr} {c n : Nat} {xs : List Value} (h : w.ownsRow base e size (.slice A n c) n xs) : n ≤ c := by
  rcases h.2 with ⟨hv, h0⟩ | ⟨g, cap, cur, hv, _, _, hn, _⟩
  · omega
  · injection hv with _ _ h3; omega
theorem own_off {w : World} {base : Nat} {e : TypeId} {size : Nat} {A : Option Addr} {c n : Nat} {xs : List Value} (h : w.ownsRow base e size (.slice A n c) n xs) : ∀ b o s, A = some ⟨b, o, s⟩ → base ≤ b ∧ b < w.heap.size := by
  rintro b o s rfl
  rcases h.2 with ⟨hv, h0⟩ | ⟨g, cap, cur, hv, hg, hh, _⟩
  · injection hv with hv; cases hv
  · injection hv with hv
    injection hv with hv
    injection hv with hv
    subst hv
    exact ⟨hg, (Array.getElem?_eq_some_iff.1 hh).1⟩
theorem layput_store {w w1 : World} {gb gk : Nat} {bs' : Ia.Bs} {v : Value} {A' : Option Addr} {c' : Nat} (hrow : w.heap[gb]? = some (.cells #[v] 31 (0, 0))) (hb : Below w.heap.size w w1) (hk : gk < w.heap.size) (ho : w1.ownsRow w.heap.size 5 1 (.slice A' bs'.length c') bs'.length (bcells bs')) :
    LayAt (w1.setCell ⟨gb, 0, none⟩ (.slice A' bs'.length c')) gb gk bs' ∧ w.grownBy (w1.setCell ⟨gb, 0, none⟩ (.slice A' bs'.length c')) (some gb) := by
  have hlt := (Array.getElem?_eq_some_iff.1 hrow).1
  have hr1 := (hb.block _ hlt).trans hrow
  have hoff := own_off ho
  have hne : Value.ownBlock (.slice A' bs'.length c') ≠ some gb := fun e => by have := (ho.lt _ e).1; omega
  refine ⟨⟨A', c', ?_, Src.of_own (ho.kept (grown_setCell w1 gb 0 _) (.inr hne)), own_len ho, fun b o s e => by have := hoff b o s e; omega⟩, ?_⟩
  · have := heap_setCell_same w1 gb 0 #[v] 31 (.slice A' bs'.length c') hr1
    simpa using this
  · exact World.grownBy.trans (grown_of_below_ hb) (grown_setCell _ _ _ _)
set_option maxHeartbeats 4000000 in
theorem layput (gb gk wd n : Nat) (bs : Ia.Bs) (w : World) (hL : LayAt w gb gk bs) (hk : gk < w.heap.size) (hn : bs.length ≤ 1099511627776) (h1 : 1 ≤ wd) (h8 : wd < 8) (hf : n < 256 ^ wd) :
    Calls Try.prog 45 #[.int .i64 wd, .int .u64 n, .pointer (some ⟨gb, 0, none⟩), .pointer (some ⟨gk, 0, none⟩)] w fun e w' => (∃ r, e = .returned r) ∧ LayAt w' gb gk (bs ++ Ia.le wd n) ∧ w.grownBy w' (some gb) := by
  obtain ⟨A, c, hrow, hsrc, _, _⟩ := hL
  have HP := Lib.hid (octput bs A c wd n w hsrc.at_ hn h1 h8 hf)
  have c0 : w.cell? ⟨gb, 0, none⟩ = some (.slice A bs.length c) := cell_of_row _ _ 0 _ _ (0, 0) hrow
  have HR := Lib.hid hrow
  have hlt := (Array.getElem?_eq_some_iff.1 hrow).1
  clear hrow hsrc hf
  go_enter Try.func45, Try.ntmps45
  go_wp2_with fail
  refine HP.out.mono ?_
  rintro e w1 ⟨v1, rfl, hown1, hb1⟩
  obtain ⟨A1, k1, rfl⟩ := own_slice hown1
  have c1 : w1.cell? ⟨gb, 0, none⟩ = some (.slice A bs.length c) := (hb1.cell (p := ⟨gb, 0, none⟩) hlt).trans c0
  have f1 : w1.frozen? ⟨gb, 0, none⟩ = false := frozen_of_row _ _ _ _ _ ((hb1.block _ hlt).trans HR.out)
  have hl : bs.length + wd = (bs ++ Ia.le wd n).length := by rw [List.length_append, Ia.le_length]
  rw [hl] at hown1
  have HS := Lib.hid (layput_store HR.out hb1 hk hown1)
  rw [← hl] at HS
  clear hown1 hb1 c0 hl
  go_wp2_with fail
  go_end0
  exact ⟨⟨_, rfl⟩, HS.out.1, HS.out.2⟩
set_option maxHeartbeats 4000000 in
theorem layrun (gb gk : Nat) (bs x : Ia.Bs) (A' : Option Addr) (c' : Nat) (w : World) (hL : LayAt w gb gk bs) (hk : gk < w.heap.size) (hn : bs.length ≤ 1099511627776) (hA' : BSrc w A' c' x) (hx : x.length ≤ 65535) :
    Calls Try.prog 47 #[.slice A' x.length c', .int .i64 0, .pointer (some ⟨gb, 0, none⟩), .pointer (some ⟨gk, 0, none⟩)] w fun e w' => (∃ r, e = .returned r) ∧ LayAt w' gb gk (bs ++ runB x) ∧ w.grownBy w' (some gb) := by
  obtain ⟨A, c, hrow, hsrc, _, _⟩ := hL
  have HP := Lib.hid (octputrun bs x A A' c c' w hsrc.at_ hA' hn hx)
  have c0 : w.cell? ⟨gb, 0, none⟩ = some (.slice A bs.length c) := cell_of_row _ _ 0 _ _ (0, 0) hrow
  have HR := Lib.hid hrow
  have hlt := (Array.getElem?_eq_some_iff.1 hrow).1
  clear hrow hsrc
  go_enter Try.func47, Try.ntmps47
  go_wp2_with fail
  refine HP.out.mono ?_
  rintro e w1 ⟨v1, rfl, hown1, hb1⟩
  obtain ⟨A1, k1, rfl⟩ := own_slice hown1
  have c1 : w1.cell? ⟨gb, 0, none⟩ = some (.slice A bs.length c) := (hb1.cell (p := ⟨gb, 0, none⟩) hlt).trans c0
  have f1 : w1.frozen? ⟨gb, 0, none⟩ = false := frozen_of_row _ _ _ _ _ ((hb1.block _ hlt).trans HR.out)
  have hl : bs.length + 2 + x.length = (bs ++ runB x).length := by rw [List.length_append, runB_length]; omega
  rw [hl] at hown1
  have HS := Lib.hid (layput_store HR.out hb1 hk hown1)
  rw [← hl] at HS
  clear hown1 hb1 c0 hl
  go_wp2_with fail
  go_end0
  exact ⟨⟨_, rfl⟩, HS.out.1, HS.out.2⟩
end Go.Proofs.Ytjhopgmionpkoaa
namespace Go.Proofs.Ytjhopgmionpkoaa
set_option maxRecDepth 20000
open Go.RowKit Mem

theorem grown_row {w w' : World} {gb k : Nat} {o : Obj} (hg : w.grownBy w' (some gb)) (hr : w.heap[k]? = some o) (hne : k ≠ gb) : w'.heap[k]? = some o :=
  (hg.block _ (Array.getElem?_eq_some_iff.1 hr).1 (by simpa using hne)).trans hr
/-- what holds while an image is laid down -/
structure LS (w W : World) (V : Array Value) (bs : Ia.Bs) : Prop where
  img : W.heap[w.heap.size]? = some (.cells V 28 (0, 0))
  lay : LayAt W (w.heap.size + 1 + 1) (w.heap.size + 1 + 1 + 1) bs
  ok : W.heap[w.heap.size + 1 + 1 + 1]? = some (.cells #[.bool true] 4 (0, 0))
  bel : Below w.heap.size w W
theorem LS.siz {w W : World} {V : Array Value} {bs : Ia.Bs} (h : LS w W V bs) : w.heap.size + 1 + 1 + 1 < W.heap.size := (Array.getElem?_eq_some_iff.1 h.ok).1
theorem LS.step {w W W' : World} {V : Array Value} {bs bs' : Ia.Bs} (h : LS w W V bs) (hg : W.grownBy W' (some (w.heap.size + 1 + 1))) (hl : LayAt W' (w.heap.size + 1 + 1) (w.heap.size + 1 + 1 + 1) bs') : LS w W' V bs' :=
  ⟨grown_row hg h.img (by omega), hl, grown_row hg h.ok (by omega), h.bel.trans (below_of_grown hg h.bel.size (fun g e => by injection e with e; omega))⟩
theorem LS.below {w W W' : World} {V : Array Value} {bs : Ia.Bs} (h : LS w W V bs) (hb : Below W.heap.size W W') : LS w W' V bs :=
  ⟨(hb.block _ (Array.getElem?_eq_some_iff.1 h.img).1).trans h.img, h.lay.below hb, (hb.block _ (Array.getElem?_eq_some_iff.1 h.ok).1).trans h.ok, h.bel.trans (hb.mono h.bel.size)⟩
theorem LS.cell {w W : World} {V : Array Value} {bs : Ia.Bs} (h : LS w W V bs) (j : Nat) : W.cell? ⟨w.heap.size, j, none⟩ = V[j]? := cell_of_row _ _ j _ _ (0, 0) h.img
theorem lput {w W : World} {V : Array Value} {bs : Ia.Bs} (h : LS w W V bs) (wd n : Nat) (hn : bs.length ≤ 1099511627776) (h1 : 1 ≤ wd) (h8 : wd < 8) (hf : n < 256 ^ wd) :
    Calls Try.prog 45 #[.int .i64 wd, .int .u64 n, .pointer (some ⟨w.heap.size + 1 + 1, 0, none⟩), .pointer (some ⟨w.heap.size + 1 + 1 + 1, 0, none⟩)] W fun e w' => (∃ r, e = .returned r) ∧ LS w w' V (bs ++ Ia.le wd n) ∧ W.grownBy w' (some (w.heap.size + 1 + 1)) :=
  (layput _ _ wd n bs W h.lay h.siz hn h1 h8 hf).mono fun _ _ ⟨h1, h2, h3⟩ => ⟨h1, h.step h3 h2, h3⟩
theorem lrun {w W : World} {V : Array Value} {bs : Ia.Bs} (h : LS w W V bs) (x : Ia.Bs) (A' : Option Addr) (c' : Nat) (hn : bs.length ≤ 1099511627776) (hA' : BSrc W A' c' x) (hx : x.length ≤ 65535) :
    Calls Try.prog 47 #[.slice A' x.length c', .int .i64 0, .pointer (some ⟨w.heap.size + 1 + 1, 0, none⟩), .pointer (some ⟨w.heap.size + 1 + 1 + 1, 0, none⟩)] W fun e w' => (∃ r, e = .returned r) ∧ LS w w' V (bs ++ runB x) :=
  (layrun _ _ bs x A' c' W h.lay h.siz hn hA' hx).mono fun _ _ ⟨h1, h2, h3⟩ => ⟨h1, h.step h3 h2⟩
/-- several numbers of one byte -/
def ones : List Nat → Ia.Bs
  | [] => []
  | n :: r => Ia.le 1 n ++ ones r
theorem ones_append : ∀ a b, ones (a ++ b) = ones a ++ ones b
  | [], _ => rfl
  | u :: r, b => by simp only [List.cons_append, ones, ones_append r b, List.append_assoc]
theorem ones_length : ∀ l, (ones l).length = l.length
  | [] => rfl
  | u :: r => by simp only [ones, List.length_append, Ia.le_length, ones_length r, List.length_cons]; omega
theorem magic_src {W : World} {g : Nat} {t : TypeId} {fr : Nat × Nat} (h : W.heap[g]? = some (.cells #[.int .u8 77, .int .u8 73, .int .u8 68, .int .u8 83] t fr)) : BSrc W (some ⟨g, 0, none⟩) 4 magic := by
  refine ⟨rfl, fun e => (by cases e), ?_⟩
  rintro ad e j u hu
  injection e with e
  subst e
  have e2 : bcells magic = [.int .u8 77, .int .u8 73, .int .u8 68, .int .u8 83] := rfl
  rw [e2] at hu
  rw [add_at, cell_of_row _ _ j _ _ fr h]
  simpa using hu
def LayPost (bf : Ia.Bs) (w : World) (e : Ending) (w' : World) : Prop := ∃ A c, e = .returned (.tuple #[.slice A bf.length c, .bool true]) ∧ BSrc w' A c bf ∧ bf.length ≤ c ∧ Below w.heap.size w w'
theorem infoU32 : (Try.prog.info? 22).map (fun i => (i.zero, i.size, i.bytes)) = some (some (.int .u32 0), 1, 4) := by kernel_rfl
set_option maxRecDepth 100000 in
set_option maxHeartbeats 16000000 in
theorem imlay_n (vn fn el sl nw is os sf mf : Nat) (ol : Int) (first : List Int) (step move : List Ia.Ins) (A1 A2 A3 : Option Addr) (c1 c2 c3 : Nat) (w : World)
    (hA : ImAt w ⟨vn, fn, el, ⟨sl, ol, nw, is, os⟩, first, step, move, sf, mf⟩ A1 A2 A3 c1 c2 c3) (hF : Fits ⟨vn, fn, el, ⟨sl, ol, nw, is, os⟩, first, step, move, sf, mf⟩) (bf : Ia.Bs) (hbf : Hid (bf = laidB ⟨vn, fn, el, ⟨sl, ol, nw, is, os⟩, first, step, move, sf, mf⟩)) :
    Calls Try.prog 27 #[.agg #[.int .u32 vn, .int .u32 fn, .int .i64 el, .int .i64 sl, .int .i64 ol, .int .i64 nw, .int .i64 is, .int .i64 os, .slice A1 first.length c1, .slice A2 step.length c2, .slice A3 move.length c3, .int .i64 sf, .int .i64 mf]] w (LayPost bf w) := by
  have HA := Lib.hid hA
  have HF := Lib.hid hF
  have hv := hF.ver
  have hfm := hF.frm
  have hel := hF.el
  have hsl := hF.sl
  have hnw := hF.nw
  have his := hF.is
  have hos := hF.os
  have hsf := hF.sf
  have hmf' := hF.mf
  have hfl := hF.fl
  dsimp only at hv hfm hel hsl hnw his hos hsf hmf' hfl
  have hmf : ∀ (fn : Fn) (first cap : Array Value) (w : World), (Instr.makeFunc fn first cap).run Try.prog w = .ok (.func fn first cap) w := fun _ _ _ _ => rfl
  have kc := fun (X : Obj) (C : Array Value) => Joins.run_convert_bytes_const_at (P := Try.prog) (w.alloc X) 31 5 C 4 4 (w.heap.size + 1) (by simp) Try.underlying31 Try.underlying5
  obtain ⟨V, hV⟩ : ∃ V : Array Value, V = #[.int .u32 vn, .int .u32 fn, .int .i64 el, .int .i64 sl, .int .i64 ol, .int .i64 nw, .int .i64 is, .int .i64 os, .slice A1 first.length c1, .slice A2 step.length c2, .slice A3 move.length c3, .int .i64 sf, .int .i64 mf] := ⟨_, rfl⟩
  have HV := Lib.hid hV
  clear hA hF hV
  go_enter Try.func27, Try.ntmps27
  go_wp2_with fail
  clear kc
  obtain ⟨W0, hW0⟩ : ∃ W0, W0 = (((w.alloc (.cells #[.int .u32 vn, .int .u32 fn, .int .i64 el, .int .i64 sl, .int .i64 ol, .int .i64 nw, .int .i64 is, .int .i64 os, .slice A1 first.length c1, .slice A2 step.length c2, .slice A3 move.length c3, .int .i64 sf, .int .i64 mf] 28)).alloc (.cells #[.int .u8 77, .int .u8 73, .int .u8 68, .int .u8 83] 5 (4, 5))).alloc (.cells #[.slice (some ⟨w.heap.size + 1, 0, none⟩) 4 4] 31)).alloc (.cells #[.bool true] 4) := ⟨_, rfl⟩
  rw [← hW0]
  have HS0 : Hid (LS w W0 V magic) := by
    unfold RowKit.Hid
    have e1 := heap_alloc_new w (.cells #[.int .u32 vn, .int .u32 fn, .int .i64 el, .int .i64 sl, .int .i64 ol, .int .i64 nw, .int .i64 is, .int .i64 os, .slice A1 first.length c1, .slice A2 step.length c2, .slice A3 move.length c3, .int .i64 sf, .int .i64 mf] 28)
    have z1 : (w.alloc (.cells #[.int .u32 vn, .int .u32 fn, .int .i64 el, .int .i64 sl, .int .i64 ol, .int .i64 nw, .int .i64 is, .int .i64 os, .slice A1 first.length c1, .slice A2 step.length c2, .slice A3 move.length c3, .int .i64 sf, .int .i64 mf] 28)).heap.size = w.heap.size + 1 := by simp
    have b1 : Below w.heap.size w (w.alloc (.cells #[.int .u32 vn, .int .u32 fn, .int .i64 el, .int .i64 sl, .int .i64 ol, .int .i64 nw, .int .i64 is, .int .i64 os, .slice A1 first.length c1, .slice A2 step.length c2, .slice A3 move.length c3, .int .i64 sf, .int .i64 mf] 28)) := (Below.refl _ _).alloc (Nat.le_refl _) _
    rw [← HV.out] at e1 z1 b1 hW0
    generalize w.alloc (.cells V 28) = X1 at e1 z1 b1 hW0
    have e2 := heap_alloc_new X1 (.cells #[.int .u8 77, .int .u8 73, .int .u8 68, .int .u8 83] 5 (4, 5))
    have e12 := (heap_alloc_old X1 (.cells #[.int .u8 77, .int .u8 73, .int .u8 68, .int .u8 83] 5 (4, 5)) (Array.getElem?_eq_some_iff.1 e1).1).trans e1
    have z2 : (X1.alloc (.cells #[.int .u8 77, .int .u8 73, .int .u8 68, .int .u8 83] 5 (4, 5))).heap.size = w.heap.size + 1 + 1 := by simp [z1]
    have b2 := b1.alloc (by omega) (.cells #[.int .u8 77, .int .u8 73, .int .u8 68, .int .u8 83] 5 (4, 5))
    rw [z1] at e2
    generalize X1.alloc (.cells #[.int .u8 77, .int .u8 73, .int .u8 68, .int .u8 83] 5 (4, 5)) = X2 at e2 e12 z2 b2 hW0
    have e3 := heap_alloc_new X2 (.cells #[.slice (some ⟨w.heap.size + 1, 0, none⟩) 4 4] 31)
    have e13 := (heap_alloc_old X2 (.cells #[.slice (some ⟨w.heap.size + 1, 0, none⟩) 4 4] 31) (Array.getElem?_eq_some_iff.1 e12).1).trans e12
    have e23 := (heap_alloc_old X2 (.cells #[.slice (some ⟨w.heap.size + 1, 0, none⟩) 4 4] 31) (Array.getElem?_eq_some_iff.1 e2).1).trans e2
    have z3 : (X2.alloc (.cells #[.slice (some ⟨w.heap.size + 1, 0, none⟩) 4 4] 31)).heap.size = w.heap.size + 1 + 1 + 1 := by simp [z2]
    have b3 := b2.alloc (by omega) (.cells #[.slice (some ⟨w.heap.size + 1, 0, none⟩) 4 4] 31)
    rw [z2] at e3
    generalize X2.alloc (.cells #[.slice (some ⟨w.heap.size + 1, 0, none⟩) 4 4] 31) = X3 at e3 e13 e23 z3 b3 hW0
    have e4 := heap_alloc_new X3 (.cells #[.bool true] 4)
    have e14 := (heap_alloc_old X3 (.cells #[.bool true] 4) (Array.getElem?_eq_some_iff.1 e13).1).trans e13
    have e24 := (heap_alloc_old X3 (.cells #[.bool true] 4) (Array.getElem?_eq_some_iff.1 e23).1).trans e23
    have e34 := (heap_alloc_old X3 (.cells #[.bool true] 4) (Array.getElem?_eq_some_iff.1 e3).1).trans e3
    have b4 := b3.alloc (by omega) (.cells #[.bool true] 4)
    rw [z3] at e4
    rw [← hW0] at e4 e14 e24 e34 b4
    exact ⟨e14, ⟨_, 4, e34, magic_src e24, Nat.le_refl _, fun b o s e => by injection e with e; injection e with e; omega⟩, e4, b4⟩
  clear hW0
  refine (lput HS0.out 4 vn (by decide) (by omega) (by omega) (by omega)).mono ?_
  rintro e w1 ⟨⟨r, rfl⟩, hs, _⟩
  have HS1 := Lib.hid hs
  clear hs HS0
  have ci : w1.cell? ⟨w.heap.size, 1, none⟩ = some (.int .u32 fn) := by rw [HS1.out.cell, HV.out]; rfl
  go_wp2_with fail
  clear ci
  refine (lput HS1.out 4 fn (by simp only [List.length_append, Ia.le_length, show magic.length = 4 from rfl]; omega) (by omega) (by omega) (by omega)).mono ?_
  rintro e w2 ⟨⟨r, rfl⟩, hs, _⟩
  have HS2 := Lib.hid hs
  clear hs HS1
  have ci0 : w2.cell? ⟨w.heap.size, 2, none⟩ = some (.int .i64 el) := by rw [HS2.out.cell, HV.out]; rfl
  have ci1 : w2.cell? ⟨w.heap.size, 3, none⟩ = some (.int .i64 sl) := by rw [HS2.out.cell, HV.out]; rfl
  have ci2 : w2.cell? ⟨w.heap.size, 5, none⟩ = some (.int .i64 nw) := by rw [HS2.out.cell, HV.out]; rfl
  have ci3 : w2.cell? ⟨w.heap.size, 6, none⟩ = some (.int .i64 is) := by rw [HS2.out.cell, HV.out]; rfl
  have ci4 : w2.cell? ⟨w.heap.size, 7, none⟩ = some (.int .i64 os) := by rw [HS2.out.cell, HV.out]; rfl
  go_wp2_with fail
  clear ci0 ci1 ci2 ci3 ci4
  obtain ⟨W2, hW2⟩ : ∃ W2, W2 = w2.alloc (.cells #[.int .i64 el, .int .i64 sl, .int .i64 nw, .int .i64 is, .int .i64 os] 3) := ⟨_, rfl⟩
  rw [← hW2]
  have HQ : Hid (W2.heap[w2.heap.size]? = some (.cells #[.int .i64 el, .int .i64 sl, .int .i64 nw, .int .i64 is, .int .i64 os] 3 (0, 0))) := by unfold RowKit.Hid; rw [hW2]; exact heap_alloc_new _ _
  have HS3 : Hid (LS w W2 V (magic ++ Ia.le 4 vn ++ Ia.le 4 fn)) := by unfold RowKit.Hid; rw [hW2]; exact HS2.out.below ((Below.refl _ _).alloc (Nat.le_refl _) _)
  have hgl : w.heap.size + 1 + 1 + 1 < w2.heap.size := HS2.out.siz
  clear hW2 HS2
  obtain ⟨pre, hpre⟩ : ∃ l : Ia.Bs, l = magic ++ Ia.le 4 vn ++ Ia.le 4 fn := ⟨_, rfl⟩
  rw [← hpre] at HS3
  have hpl : pre.length = 12 := by rw [hpre, List.length_append, List.length_append, Ia.le_length, Ia.le_length]; rfl
  have HPRE := Lib.hid hpre
  have HPL := Lib.hid hpl
  clear hpre hpl
  have HC : Hid (∀ k (h : k < 5), ∃ x : Nat, x < 256 ∧ ([el, sl, nw, is, os] : List Nat)[k]? = some x ∧ (#[.int .i64 el, .int .i64 sl, .int .i64 nw, .int .i64 is, .int .i64 os] : Array Value)[k]? = some (.int .i64 (x : Int))) := by
    intro k h
    rcases (show k = 0 ∨ k = 1 ∨ k = 2 ∨ k = 3 ∨ k = 4 by omega) with rfl | rfl | rfl | rfl | rfl
    · exact ⟨el, by omega, rfl, rfl⟩
    · exact ⟨sl, by omega, rfl, rfl⟩
    · exact ⟨nw, by omega, rfl, rfl⟩
    · exact ⟨is, by omega, rfl, rfl⟩
    · exact ⟨os, by omega, rfl, rfl⟩
  obtain ⟨vals, hvals⟩ : ∃ l : List Nat, l = [el, sl, nw, is, os] := ⟨_, rfl⟩
  rw [← hvals] at HC
  have HVL : Hid (vals.length = 5) := by unfold RowKit.Hid; rw [hvals]; rfl
  have HVS := Lib.hid hvals
  obtain ⟨LI, hLI⟩ : ∃ V : Array Value, V = #[.int .i64 el, .int .i64 sl, .int .i64 nw, .int .i64 is, .int .i64 os] := ⟨_, rfl⟩
  rw [← hLI] at HQ HC
  clear hvals hLI
  go_loopw [43] (fun i wr => ∃ k : Nat, k ≤ 5 ∧ i = .int .i64 k ∧ Hid (LS w wr V (pre ++ ones (vals.take k))) ∧ Hid (wr.heap[w2.heap.size]? = some (.cells LI 3 (0, 0)))) (fun i _ => 5 - (intOf i).toNat)
  case atStart => exact ⟨0, Nat.zero_le _, rfl, (by simpa [ones] using HS3), HQ⟩
  case round =>
    obtain ⟨k, hk, rfl, hS, hQ⟩ := hrel
    by_cases hlt : k < 5
    · obtain ⟨x, hx, hxv, hxc⟩ := HC.out k hlt
      have ck : wr.cell? ⟨w2.heap.size, k, none⟩ = some (.int .i64 (x : Int)) := by rw [cell_of_row _ _ k _ _ (0, 0) hQ.out]; exact hxc
      have HT : Hid (ones (vals.take (k + 1)) = ones (vals.take k) ++ Ia.le 1 x) := by
        unfold RowKit.Hid
        have hk5 : k < vals.length := by rw [HVL.out]; exact hlt
        rw [List.take_succ_eq_append_getElem hk5, ones_append]
        rw [List.getElem?_eq_getElem hk5] at hxv
        injection hxv with hxv
        rw [hxv]
        simp [ones]
      have hkl : (pre ++ ones (vals.take k)).length ≤ 1099511627776 := by rw [List.length_append, ones_length, List.length_take, HPL.out]; omega
      have HKL := Lib.hid hkl
      clear hxv hxc hkl
      go_wp2_with fail
      refine (lput hS.out 1 x HKL.out (by omega) (by omega) (by omega)).mono ?_
      rintro e wx ⟨⟨r, rfl⟩, hs, hgx⟩
      rw [List.append_assoc, ← HT.out] at hs
      have HSX := Lib.hid hs
      have HQX := Lib.hid (grown_row hgx hQ.out (by omega))
      clear hs hgx
      go_wp2_with fail
      go_roundw
      case rel => exact ⟨k + 1, by omega, by go_num, HSX, HQX⟩
      case measure => simp [intOf]; omega
    · obtain rfl : k = 5 := by omega
      have HS4 : Hid (LS w wr V (pre ++ ones vals)) := by have := hS.out; rw [List.take_of_length_le (by rw [HVL.out]; exact Nat.le_refl _)] at this; exact this
      have hln : (pre ++ ones vals).length = 17 := by rw [List.length_append, ones_length, HPL.out, HVL.out]
      obtain ⟨pre2, hpre2⟩ : ∃ l : Ia.Bs, l = pre ++ ones vals := ⟨_, rfl⟩
      rw [← hpre2] at HS4 hln
      have HPRE2 := Lib.hid hpre2
      have HLN := Lib.hid hln
      have ci : wr.cell? ⟨w.heap.size, 11, none⟩ = some (.int .i64 (sf : Int)) := by rw [HS4.out.cell, HV.out]; rfl
      clear hS hQ HQ HC hpre2 hln
      go_wp2_with fail
      clear ci
      refine (lput HS4.out 2 sf (by have := HLN.out; omega) (by omega) (by omega) (by omega)).mono ?_
      rintro e w5 ⟨⟨r, rfl⟩, hs, hgg⟩
      clear hgg
      have HS5 := Lib.hid hs
      clear hs HS4
      have ci : w5.cell? ⟨w.heap.size, 12, none⟩ = some (.int .i64 (mf : Int)) := by rw [HS5.out.cell, HV.out]; rfl
      go_wp2_with fail
      clear ci
      refine (lput HS5.out 2 mf (by rw [List.length_append, Ia.le_length, HLN.out]; omega) (by omega) (by omega) (by omega)).mono ?_
      rintro e w6 ⟨⟨r, rfl⟩, hs, hgg⟩
      clear hgg
      have hs6 : LS w w6 V (pre2 ++ Ia.le 2 sf ++ Ia.le 2 mf) := hs
      have hln : (pre2 ++ Ia.le 2 sf ++ Ia.le 2 mf).length = 21 := by rw [List.length_append, List.length_append, Ia.le_length, Ia.le_length, HLN.out]
      obtain ⟨pre3, hpre3⟩ : ∃ l : Ia.Bs, l = pre2 ++ Ia.le 2 sf ++ Ia.le 2 mf := ⟨_, rfl⟩
      rw [← hpre3] at hs6 hln
      have HPRE3 := Lib.hid hpre3
      have HLN3 := Lib.hid hln
      have HS6 := Lib.hid hs6
      clear hs hs6 hpre3 hln HS5 HLN
      have ci : w6.cell? ⟨w.heap.size, 8, none⟩ = some (.slice A1 first.length c1) := by rw [HS6.out.cell, HV.out]; rfl
      go_wp2_with fail
      clear ci
      obtain ⟨iu, hiu, hiu0, hiu1, hiu2⟩ := info_parts infoU32
      have hfz : (first.map fun n => Value.int .i32 n).length = first.length := List.length_map ..
      obtain ⟨us, hus⟩ : ∃ l : List Nat, l = first.map Ia.plainN := ⟨_, rfl⟩
      have husl : us.length = first.length := by rw [hus, List.length_map]
      have husb : ∀ u ∈ us, u < 4294967296 := by
        intro u hu
        rw [hus] at hu
        obtain ⟨n, _, rfl⟩ := List.mem_map.1 hu
        unfold Ia.plainN
        omega
      have HUX : Hid (∀ k (h : k < first.length), us[k]? = some (Ia.plainN (first[k]'h))) := by
        intro k h
        rw [hus, List.getElem?_map, List.getElem?_eq_getElem h]; rfl
      have HUS := Lib.hid hus
      have HUL := Lib.hid husl
      have HUB := Lib.hid husb
      have HFZ := Lib.hid hfz
      clear hus husl husb hfz
      have hB6 := HS6.out.bel.size
      go_loopw [10, 65] (fun v i wr => ∃ k : Nat, k ≤ first.length ∧ i = .int .i64 k ∧ Hid (wr.ownsRow w6.heap.size 22 1 v k (ucells (us.take k))) ∧ Hid (Below w6.heap.size w6 wr)) (fun _ i _ => first.length - (intOf i).toNat)
      case atStart => exact ⟨0, Nat.zero_le _, rfl, World.ownsRow_nil _ _ _ _, Below.refl _ _⟩
      case round =>
        obtain ⟨k, hk2, rfl, hO, hB⟩ := hrel
        by_cases hlt2 : k < first.length
        · obtain ⟨b, off, rfl⟩ := src_spot HA.out.first (by rw [HFZ.out]; omega)
          have hbq : Below w.heap.size w wr := HS6.out.bel.trans (hB.out.mono hB6)
          have ck : wr.cell? ⟨b, off + k, none⟩ = some (.int .i32 (first[k]'hlt2)) := src_at (HA.out.first.below hbq (Nat.le_refl _)) (by rw [List.getElem?_map, List.getElem?_eq_getElem hlt2]; rfl)
          have hrg := HF.out.first _ (List.getElem_mem hlt2)
          have HX : Hid (ucells (us.take (k + 1)) = ucells (us.take k) ++ [.int .u32 ((Ia.plainN (first[k]'hlt2) : Nat) : Int)]) := by
            unfold RowKit.Hid
            have hku : k < us.length := by rw [HUL.out]; exact hlt2
            have h2 := HUX.out k hlt2
            rw [List.getElem?_eq_getElem hku] at h2
            injection h2 with h2
            rw [List.take_succ_eq_append_getElem hku, h2]
            simp [ucells]
          generalize first[k]'hlt2 = x at *
          have hbz := hB.out.size
          have HP := Lib.hid (fun W => octplain x hrg.1 hrg.2 W)
          clear hrg hbq
          go_wp2_with fail
          refine (HP.out _).mono ?_
          rintro e wz ⟨rfl, rfl⟩
          generalize Ia.plainN x = px at *
          go_wp2_with (at_builtin; refine wpList_append_own _ rfl _ _ 86 rfl w6.heap.size 22 iu (.int .u32 0) 1 4 Try.underlying86 hiu hiu0 hiu1 hiu2 rfl (by decide) _ _ _ rfl (hO.out.alloc _) ⟨wr.heap.size, 0, none⟩ 1 1 [.int .u32 (px : Int)] rfl rfl ?c1 ?c2 ?c3 ?c4 ?c5 ?_)
          case c1 => exact cells_new _ _ _ _ rfl
          case c2 => intro u hu; rw [List.mem_singleton] at hu; subst hu; rfl
          case c3 => unfold maxLen; omega
          case c4 => omega
          case c5 => simp; omega
          intro v' w8 hown8 hgrow _
          have HB8 : Hid (Below w6.heap.size w6 w8) := (hB.out.alloc hB.out.size _).grown hgrow (by simp; omega) (fun b hb => (hO.out.lt b hb).1)
          rw [← HX.out] at hown8
          have HO8 := Lib.hid hown8
          clear hown8 hgrow
          go_wp2_with fail
          go_roundw
          case rel => exact ⟨k + 1, by omega, by go_num, HO8, HB8⟩
          case measure => simp [intOf]; omega
        · obtain rfl : k = first.length := by omega
          have ho := hO.out
          rw [List.take_of_length_le (by rw [HUL.out]; exact Nat.le_refl _)] at ho
          obtain ⟨A9, c9, rfl⟩ := own_slice ho
          have hoc := octbytes us A9 c9 wr (by rw [HUL.out]; exact Src.of_own ho) (by rw [HUL.out]; omega) HUB.out
          rw [HUL.out] at hoc
          have HOC := Lib.hid hoc
          have HS7 := Lib.hid (HS6.out.below hB.out)
          clear ho hoc hO hB HS6
          go_wp2_with fail
          refine HOC.out.mono ?_
          rintro e w9 ⟨vb, rfl, hob, hbb⟩
          obtain ⟨Ab, cb, rfl⟩ := own_slice hob
          have HS9 := Lib.hid (HS7.out.below hbb)
          have hb4 : (bytes4 us).length = 4 * first.length := by rw [bytes4_length, HUL.out]
          have hr1 := lrun HS9.out (bytes4 us) Ab cb (by rw [HLN3.out]; omega) (by unfold BSrc; rw [hb4]; exact Src.of_own hob) (by omega)
          rw [hb4] at hr1
          have HR1 := Lib.hid hr1
          have HB4 := Lib.hid hb4
          clear hob hbb HS7 HOC hb4 hr1
          go_wp2_with fail
          refine HR1.out.mono ?_
          rintro e wa ⟨⟨r, rfl⟩, hs⟩
          have HSa := Lib.hid hs
          clear hs HR1 HS9
          have hla : (pre3 ++ runB (bytes4 us)).length ≤ 70000 := by rw [List.length_append, runB_length, HB4.out, HLN3.out]; omega
          have HLa := Lib.hid hla
          clear hla
          have ci : wa.cell? ⟨w.heap.size, 9, none⟩ = some (.slice A2 step.length c2) := by rw [HSa.out.cell, HV.out]; rfl
          have hse := HF.out.se
          dsimp only at hse
          have hen := isaencode step A2 c2 wa (ISrc.at_ (HA.out.step.below HSa.out.bel (Nat.le_refl _))) (by omega) (ins_range HF.out.step)
          rw [encOf_ok (by omega) hse.1] at hen
          dsimp only at hen
          have HEN := Lib.hid hen
          have hel1 : (Ia.encode step).length ≤ 3000 := by have := encode_len step; omega
          clear hen hse
          generalize hes : Ia.encode step = es at *
          have HES := Lib.hid hes
          clear hes
          go_wp2_with fail
          clear ci
          refine HEN.out.mono ?_
          rintro e wb ⟨vs, rfl, hos9, hbs⟩
          obtain ⟨As, cs, rfl⟩ := own_slice hos9
          have HSb := Lib.hid (HSa.out.below hbs)
          have HR2 := Lib.hid (lrun HSb.out es As cs (by have := HLa.out; omega) (Src.of_own hos9) (by omega))
          clear hos9 hbs HEN HSa
          go_wp2_with fail
          refine HR2.out.mono ?_
          rintro e wc ⟨⟨r, rfl⟩, hs⟩
          have HSc := Lib.hid hs
          clear hs HR2 HSb
          have hlb : (pre3 ++ runB (bytes4 us) ++ runB es).length ≤ 80000 := by rw [List.length_append, runB_length]; have := HLa.out; omega
          have HLb := Lib.hid hlb
          clear hlb
          have ci : wc.cell? ⟨w.heap.size, 10, none⟩ = some (.slice A3 move.length c3) := by rw [HSc.out.cell, HV.out]; rfl
          have hme := HF.out.me
          dsimp only at hme
          have hen := isaencode move A3 c3 wc (ISrc.at_ (HA.out.move.below HSc.out.bel (Nat.le_refl _))) (by omega) (ins_range HF.out.move)
          rw [encOf_ok (by omega) hme.1] at hen
          dsimp only at hen
          have HEN := Lib.hid hen
          have hel2 : (Ia.encode move).length ≤ 3000 := by have := encode_len move; omega
          clear hen hme
          generalize hem : Ia.encode move = em at *
          have HEM := Lib.hid hem
          clear hem
          go_wp2_with fail
          clear ci
          refine HEN.out.mono ?_
          rintro e wd ⟨vm, rfl, hom9, hbm⟩
          obtain ⟨Am, cm, rfl⟩ := own_slice hom9
          have HSd := Lib.hid (HSc.out.below hbm)
          have HR3 := Lib.hid (lrun HSd.out em Am cm (by have := HLb.out; omega) (Src.of_own hom9) (by omega))
          clear hom9 hbm HEN HSc
          go_wp2_with fail
          refine HR3.out.mono ?_
          rintro e we ⟨⟨r, rfl⟩, hs⟩
          have HSe := Lib.hid hs
          clear hs HR3 HSd
          have hfin : pre3 ++ runB (bytes4 us) ++ runB es ++ runB em = laidB ⟨vn, fn, el, ⟨sl, ol, nw, is, os⟩, first, step, move, sf, mf⟩ := by
            rw [HPRE3.out, HPRE2.out, HPRE.out, HVS.out, HUS.out, ← HES.out, ← HEM.out]
            simp [laidB, numsB, firstB, ones, List.append_assoc]
          have hse := HSe.out
          rw [hfin, ← hbf.out] at hse
          obtain ⟨Az, cz, hrow, hsrc, hlc, _⟩ := hse.lay
          have cb0 : we.cell? ⟨w.heap.size + 1 + 1, 0, none⟩ = some (.slice Az bf.length cz) := cell_of_row _ _ 0 _ _ (0, 0) hrow
          have ck0 : we.cell? ⟨w.heap.size + 1 + 1 + 1, 0, none⟩ = some (.bool true) := cell_of_row _ _ 0 _ _ (0, 0) hse.ok
          have HSRC := Lib.hid hsrc
          have HLC := Lib.hid hlc
          have HBE := Lib.hid hse.bel
          clear hfin hse hrow hsrc hlc HSe
          go_wp2_with fail
          go_quiet (fail)
          go_wp2_with fail
          go_ret2
          exact ⟨Az, cz, rfl, HSRC.out.below (below_drewN (Below.refl _ _) _) (Nat.le_refl _), HLC.out, below_drewN HBE.out _⟩
theorem imlay (m : Im) (A1 A2 A3 : Option Addr) (c1 c2 c3 : Nat) (w : World) (hA : ImAt w m A1 A2 A3 c1 c2 c3) (hF : Fits m) :
    Calls Try.prog 27 #[imAgg m A1 A2 A3 c1 c2 c3] w (LayPost (laidB m) w) := by
  obtain ⟨ver, frm, el, ⟨sl, ol, nw, is, os⟩, first, step, move, sf, mf⟩ := m
  obtain ⟨vn, rfl⟩ := Int.eq_ofNat_of_zero_le hF.ver.1
  obtain ⟨fn, rfl⟩ := Int.eq_ofNat_of_zero_le hF.frm.1
  obtain ⟨en, rfl⟩ := Int.eq_ofNat_of_zero_le hF.el.1
  obtain ⟨sn, rfl⟩ := Int.eq_ofNat_of_zero_le hF.sl.1
  obtain ⟨nn, rfl⟩ := Int.eq_ofNat_of_zero_le hF.nw.1
  obtain ⟨isn, rfl⟩ := Int.eq_ofNat_of_zero_le hF.is.1
  obtain ⟨on, rfl⟩ := Int.eq_ofNat_of_zero_le hF.os.1
  obtain ⟨sfn, rfl⟩ := Int.eq_ofNat_of_zero_le hF.sf.1
  obtain ⟨mfn, rfl⟩ := Int.eq_ofNat_of_zero_le hF.mf.1
  exact imlay_n vn fn en sn nn isn on sfn mfn ol first step move A1 A2 A3 c1 c2 c3 w hA hF _ rfl
end Go.Proofs.Ytjhopgmionpkoaa
namespace Go.Proofs.Ytjhopgmionpkoaa
set_option maxRecDepth 20000
open Go.RowKit Mem

def NumPost (x : Ia.Bs) (w : World) (e : Ending) (w' : World) : Prop := ∃ A c, e = .returned (.slice A x.length c) ∧ BSrc w' A c x ∧ x.length ≤ c ∧ Below w.heap.size w w'
set_option maxHeartbeats 4000000 in
theorem refnumber (bs : Ia.Bs) (A : Option Addr) (c wd n : Nat) (w : World) (hA : BSrc w A c bs) (hl : bs.length ≤ 1099511627776) (hn : (n : Int) ≤ 4294967295) (h1 : 1 ≤ wd) (h8 : wd < 8) (hf : n < 256 ^ wd) :
    Calls Try.prog 52 #[.slice A bs.length c, .int .i64 wd, .int .i64 n] w (NumPost (bs ++ Ia.le wd n) w) := by
  have HP := Lib.hid (refput bs A c wd n w hA hl hn h1 h8 hf)
  clear hA hf
  go_enter Try.func52, Try.ntmps52
  go_wp2_with fail
  refine HP.out.mono ?_
  rintro e w1 ⟨v1, rfl, hown1, hb1⟩
  obtain ⟨A1, k1, rfl⟩ := own_slice hown1
  have hl2 : bs.length + wd = (bs ++ Ia.le wd n).length := by rw [List.length_append, Ia.le_length]
  have HO := Lib.hid hown1
  have HB := Lib.hid hb1
  have HL := Lib.hid hl2
  clear hown1 hb1 hl2
  go_wp2_with fail
  go_ret
  exact ⟨A1, k1, by rw [← HL.out]; rfl, by unfold BSrc; rw [← HL.out]; exact Src.of_own HO.out, by rw [← HL.out]; exact own_len HO.out, HB.out⟩
set_option maxHeartbeats 4000000 in
theorem refrun (bs x : Ia.Bs) (A A' : Option Addr) (c c' : Nat) (w : World) (hA : BSrc w A c bs) (hA' : BSrc w A' c' x) (hl : bs.length ≤ 1099511627776) (hx : x.length ≤ 65535) :
    Calls Try.prog 55 #[.slice A bs.length c, .slice A' x.length c'] w (NumPost (bs ++ runB x) w) := by
  have HP := Lib.hid (refputrun bs x A A' c c' w hA hA' hl hx)
  clear hA hA'
  go_enter Try.func55, Try.ntmps55
  go_wp2_with fail
  refine HP.out.mono ?_
  rintro e w1 ⟨v1, rfl, hown1, hb1⟩
  obtain ⟨A1, k1, rfl⟩ := own_slice hown1
  have hl2 : bs.length + 2 + x.length = (bs ++ runB x).length := by rw [List.length_append, runB_length]; omega
  have HO := Lib.hid hown1
  have HB := Lib.hid hb1
  have HL := Lib.hid hl2
  clear hown1 hb1 hl2
  go_wp2_with fail
  go_ret
  exact ⟨A1, k1, by rw [← HL.out]; rfl, by unfold BSrc; rw [← HL.out]; exact Src.of_own HO.out, by rw [← HL.out]; exact own_len HO.out, HB.out⟩
/-- what holds while the reference lays an image down -/
structure RS (w W : World) (V : Array Value) (A : Option Addr) (c : Nat) (bs : Ia.Bs) : Prop where
  img : W.heap[w.heap.size]? = some (.cells V 28 (0, 0))
  src : BSrc W A c bs
  bel : Below w.heap.size w W
theorem RS.below {w W W' : World} {V : Array Value} {A : Option Addr} {c : Nat} {bs : Ia.Bs} (h : RS w W V A c bs) (hb : Below W.heap.size W W') : RS w W' V A c bs :=
  ⟨(hb.block _ (Array.getElem?_eq_some_iff.1 h.img).1).trans h.img, h.src.below hb (Nat.le_refl _), h.bel.trans (hb.mono h.bel.size)⟩
theorem RS.cell {w W : World} {V : Array Value} {A : Option Addr} {c : Nat} {bs : Ia.Bs} (h : RS w W V A c bs) (j : Nat) : W.cell? ⟨w.heap.size, j, none⟩ = V[j]? := cell_of_row _ _ j _ _ (0, 0) h.img
def RPost (w W : World) (V : Array Value) (bs : Ia.Bs) (e : Ending) (w' : World) : Prop := ∃ A c n, n = bs.length ∧ e = .returned (.slice A n c) ∧ RS w w' V A c bs ∧ n ≤ c ∧ Below W.heap.size W w'
theorem rput {w W : World} {V : Array Value} {A : Option Addr} {c : Nat} {bs : Ia.Bs} (h : RS w W V A c bs) (wd n l : Nat) (hl : bs.length = l) (h2 : l ≤ 100000) (h1 : 1 ≤ wd) (h8 : wd < 8) (h3 : (n : Int) ≤ 4294967295) (hf : n < 256 ^ wd) :
    Calls Try.prog 52 #[.slice A l c, .int .i64 wd, .int .i64 n] W (RPost w W V (bs ++ Ia.le wd n)) := by
  subst hl
  refine (refnumber bs A c wd n W h.src (by omega) h3 h1 h8 hf).mono ?_
  rintro e w' ⟨A', c', rfl, hs, hc, hb⟩
  exact ⟨A', c', _, rfl, rfl, ⟨(h.below hb).img, hs, (h.below hb).bel⟩, hc, hb⟩
theorem rrun {w W : World} {V : Array Value} {A : Option Addr} {c : Nat} {bs : Ia.Bs} (h : RS w W V A c bs) (x : Ia.Bs) (A' : Option Addr) (c' l : Nat) (hl : bs.length = l) (h2 : l ≤ 100000) (hA' : BSrc W A' c' x) (hx : x.length ≤ 65535) :
    Calls Try.prog 55 #[.slice A l c, .slice A' x.length c'] W (RPost w W V (bs ++ runB x)) := by
  subst hl
  refine (refrun bs x A A' c c' W h.src hA' (by omega) hx).mono ?_
  rintro e w' ⟨A2, c2, rfl, hs, hc, hb⟩
  exact ⟨A2, c2, _, rfl, rfl, ⟨(h.below hb).img, hs, (h.below hb).bel⟩, hc, hb⟩
set_option maxRecDepth 100000 in
set_option maxHeartbeats 16000000 in
theorem reflaid_n (vn fn el sl nw is os sf mf : Nat) (ol : Int) (first : List Int) (step move : List Ia.Ins) (A1 A2 A3 : Option Addr) (c1 c2 c3 : Nat) (w : World)
    (hA : ImAt w ⟨vn, fn, el, ⟨sl, ol, nw, is, os⟩, first, step, move, sf, mf⟩ A1 A2 A3 c1 c2 c3) (hF : Fits ⟨vn, fn, el, ⟨sl, ol, nw, is, os⟩, first, step, move, sf, mf⟩) (bf : Ia.Bs) (hbf : Hid (bf = laidB ⟨vn, fn, el, ⟨sl, ol, nw, is, os⟩, first, step, move, sf, mf⟩)) :
    Calls Try.prog 28 #[.agg #[.int .u32 vn, .int .u32 fn, .int .i64 el, .int .i64 sl, .int .i64 ol, .int .i64 nw, .int .i64 is, .int .i64 os, .slice A1 first.length c1, .slice A2 step.length c2, .slice A3 move.length c3, .int .i64 sf, .int .i64 mf]] w (NumPost bf w) := by
  have HA := Lib.hid hA
  have HF := Lib.hid hF
  have hv := hF.ver
  have hfm := hF.frm
  have hel := hF.el
  have hsl := hF.sl
  have hnw := hF.nw
  have his := hF.is
  have hos := hF.os
  have hsf := hF.sf
  have hmf' := hF.mf
  have hfl := hF.fl
  dsimp only at hv hfm hel hsl hnw his hos hsf hmf' hfl
  have kc := fun (X : Obj) (C : Array Value) => Joins.run_convert_bytes_const_at (P := Try.prog) (w.alloc X) 31 5 C 4 4 (w.heap.size + 1) (by simp) Try.underlying31 Try.underlying5
  obtain ⟨V, hV⟩ : ∃ V : Array Value, V = #[.int .u32 vn, .int .u32 fn, .int .i64 el, .int .i64 sl, .int .i64 ol, .int .i64 nw, .int .i64 is, .int .i64 os, .slice A1 first.length c1, .slice A2 step.length c2, .slice A3 move.length c3, .int .i64 sf, .int .i64 mf] := ⟨_, rfl⟩
  have HV := Lib.hid hV
  clear hA hF hV
  go_enter Try.func28, Try.ntmps28
  go_wp2_with fail
  clear kc
  obtain ⟨W0, hW0⟩ : ∃ W0, W0 = ((w.alloc (.cells #[.int .u32 vn, .int .u32 fn, .int .i64 el, .int .i64 sl, .int .i64 ol, .int .i64 nw, .int .i64 is, .int .i64 os, .slice A1 first.length c1, .slice A2 step.length c2, .slice A3 move.length c3, .int .i64 sf, .int .i64 mf] 28)).alloc (.cells #[.int .u8 77, .int .u8 73, .int .u8 68, .int .u8 83] 5 (4, 5))) := ⟨_, rfl⟩
  rw [← hW0]
  have HS0 : Hid (RS w W0 V (some ⟨w.heap.size + 1, 0, none⟩) 4 magic) := by
    unfold RowKit.Hid
    have e1 := heap_alloc_new w (.cells #[.int .u32 vn, .int .u32 fn, .int .i64 el, .int .i64 sl, .int .i64 ol, .int .i64 nw, .int .i64 is, .int .i64 os, .slice A1 first.length c1, .slice A2 step.length c2, .slice A3 move.length c3, .int .i64 sf, .int .i64 mf] 28)
    have z1 : (w.alloc (.cells #[.int .u32 vn, .int .u32 fn, .int .i64 el, .int .i64 sl, .int .i64 ol, .int .i64 nw, .int .i64 is, .int .i64 os, .slice A1 first.length c1, .slice A2 step.length c2, .slice A3 move.length c3, .int .i64 sf, .int .i64 mf] 28)).heap.size = w.heap.size + 1 := by simp
    have b1 : Below w.heap.size w (w.alloc (.cells #[.int .u32 vn, .int .u32 fn, .int .i64 el, .int .i64 sl, .int .i64 ol, .int .i64 nw, .int .i64 is, .int .i64 os, .slice A1 first.length c1, .slice A2 step.length c2, .slice A3 move.length c3, .int .i64 sf, .int .i64 mf] 28)) := (Below.refl _ _).alloc (Nat.le_refl _) _
    rw [← HV.out] at e1 z1 b1 hW0
    generalize w.alloc (.cells V 28) = X1 at e1 z1 b1 hW0
    have e2 := heap_alloc_new X1 (.cells #[.int .u8 77, .int .u8 73, .int .u8 68, .int .u8 83] 5 (4, 5))
    have e12 := (heap_alloc_old X1 (.cells #[.int .u8 77, .int .u8 73, .int .u8 68, .int .u8 83] 5 (4, 5)) (Array.getElem?_eq_some_iff.1 e1).1).trans e1
    have b2 := b1.alloc (by omega) (.cells #[.int .u8 77, .int .u8 73, .int .u8 68, .int .u8 83] 5 (4, 5))
    rw [z1] at e2
    rw [← hW0] at e2 e12 b2
    exact ⟨e12, magic_src e2, b2⟩
  clear hW0
  refine (rput HS0.out 4 vn 4 rfl (by omega) (by omega) (by omega) (by omega) (by omega)).mono ?_
  rintro e w1 ⟨B1, d1, n1, hn, rfl, hs, hc, hb⟩
  have HS1 := Lib.hid hs
  have HL1 : Hid ((magic ++ Ia.le 4 vn).length = n1) := hn.symm
  have hn1 : n1 ≤ 8 := by rw [hn]; simp only [List.length_append, Ia.le_length, show magic.length = 4 from rfl]; omega
  clear hs hn hc hb 
  have ci : w1.cell? ⟨w.heap.size, 1, none⟩ = some (.int .u32 fn) := by rw [HS1.out.cell, HV.out]; rfl
  go_wp2_with fail
  clear ci
  refine (rput HS1.out 4 fn n1 HL1.out (by omega) (by omega) (by omega) (by omega) (by omega)).mono ?_
  rintro e w2 ⟨B2, d2, n2, hn, rfl, hs, hc, hb⟩
  have HS2 := Lib.hid hs
  have HL2 : Hid ((magic ++ Ia.le 4 vn ++ Ia.le 4 fn).length = n2) := hn.symm
  have hn2 : n2 ≤ 12 := by rw [hn]; simp only [List.length_append, Ia.le_length, show magic.length = 4 from rfl]; omega
  clear hs hn hc hb HS1 HL1
  have ci0 : w2.cell? ⟨w.heap.size, 2, none⟩ = some (.int .i64 el) := by rw [HS2.out.cell, HV.out]; rfl
  have ci1 : w2.cell? ⟨w.heap.size, 3, none⟩ = some (.int .i64 sl) := by rw [HS2.out.cell, HV.out]; rfl
  have ci2 : w2.cell? ⟨w.heap.size, 5, none⟩ = some (.int .i64 nw) := by rw [HS2.out.cell, HV.out]; rfl
  have ci3 : w2.cell? ⟨w.heap.size, 6, none⟩ = some (.int .i64 is) := by rw [HS2.out.cell, HV.out]; rfl
  have ci4 : w2.cell? ⟨w.heap.size, 7, none⟩ = some (.int .i64 os) := by rw [HS2.out.cell, HV.out]; rfl
  go_wp2_with fail
  clear ci0 ci1 ci2 ci3 ci4
  obtain ⟨W2, hW2⟩ : ∃ W2, W2 = w2.alloc (.cells #[.int .i64 el, .int .i64 sl, .int .i64 nw, .int .i64 is, .int .i64 os] 3) := ⟨_, rfl⟩
  rw [← hW2]
  have HQ : Hid (W2.heap[w2.heap.size]? = some (.cells #[.int .i64 el, .int .i64 sl, .int .i64 nw, .int .i64 is, .int .i64 os] 3 (0, 0))) := by unfold RowKit.Hid; rw [hW2]; exact heap_alloc_new _ _
  have HS3 : Hid (RS w W2 V B2 d2 (magic ++ Ia.le 4 vn ++ Ia.le 4 fn)) := by unfold RowKit.Hid; rw [hW2]; exact HS2.out.below ((Below.refl _ _).alloc (Nat.le_refl _) _)
  have hgl : w.heap.size ≤ w2.heap.size := HS2.out.bel.size
  clear hW2 HS2
  obtain ⟨pre, hpre⟩ : ∃ l : Ia.Bs, l = magic ++ Ia.le 4 vn ++ Ia.le 4 fn := ⟨_, rfl⟩
  rw [← hpre] at HS3 HL2
  have hpl : pre.length = 12 := by rw [hpre, List.length_append, List.length_append, Ia.le_length, Ia.le_length]; rfl
  have HPRE := Lib.hid hpre
  have HPL := Lib.hid hpl
  clear hpre hpl
  have HC : Hid (∀ k (h : k < 5), ∃ x : Nat, x < 256 ∧ ([el, sl, nw, is, os] : List Nat)[k]? = some x ∧ (#[.int .i64 el, .int .i64 sl, .int .i64 nw, .int .i64 is, .int .i64 os] : Array Value)[k]? = some (.int .i64 (x : Int))) := by
    intro k h
    rcases (show k = 0 ∨ k = 1 ∨ k = 2 ∨ k = 3 ∨ k = 4 by omega) with rfl | rfl | rfl | rfl | rfl
    · exact ⟨el, by omega, rfl, rfl⟩
    · exact ⟨sl, by omega, rfl, rfl⟩
    · exact ⟨nw, by omega, rfl, rfl⟩
    · exact ⟨is, by omega, rfl, rfl⟩
    · exact ⟨os, by omega, rfl, rfl⟩
  obtain ⟨vals, hvals⟩ : ∃ l : List Nat, l = [el, sl, nw, is, os] := ⟨_, rfl⟩
  rw [← hvals] at HC
  have HVL : Hid (vals.length = 5) := by unfold RowKit.Hid; rw [hvals]; rfl
  have HVS := Lib.hid hvals
  obtain ⟨LI, hLI⟩ : ∃ V : Array Value, V = #[.int .i64 el, .int .i64 sl, .int .i64 nw, .int .i64 is, .int .i64 os] := ⟨_, rfl⟩
  rw [← hLI] at HQ HC
  clear hvals hLI
  go_loopw [3, 5] (fun b i wr => ∃ (k : Nat) (A : Option Addr) (c n : Nat), k ≤ 5 ∧ i = .int .i64 k ∧ b = .slice A n c ∧ n ≤ 17 ∧ Hid (RS w wr V A c (pre ++ ones (vals.take k))) ∧ Hid ((pre ++ ones (vals.take k)).length = n) ∧ Hid (wr.heap[w2.heap.size]? = some (.cells LI 3 (0, 0)))) (fun _ i _ => 5 - (intOf i).toNat)
  case atStart => exact ⟨0, B2, d2, n2, Nat.zero_le _, rfl, rfl, by omega, (by simpa [ones] using HS3), (by simpa [ones] using HL2), HQ⟩
  case round =>
    obtain ⟨k, Ak, ck, nk, hk, rfl, rfl, hnk, hS, hL, hQ⟩ := hrel
    by_cases hlt : k < 5
    · obtain ⟨x, hx, hxv, hxc⟩ := HC.out k hlt
      have ce : wr.cell? ⟨w2.heap.size, k, none⟩ = some (.int .i64 (x : Int)) := by rw [cell_of_row _ _ k _ _ (0, 0) hQ.out]; exact hxc
      have HT : Hid (ones (vals.take (k + 1)) = ones (vals.take k) ++ Ia.le 1 x) := by
        unfold RowKit.Hid
        have hk5 : k < vals.length := by rw [HVL.out]; exact hlt
        rw [List.take_succ_eq_append_getElem hk5, ones_append]
        rw [List.getElem?_eq_getElem hk5] at hxv
        injection hxv with hxv
        rw [hxv]
        simp [ones]
      clear hxv hxc
      go_wp2_with fail
      refine (rput hS.out 1 x nk hL.out (by omega) (by omega) (by omega) (by omega) (by omega)).mono ?_
      rintro e wx ⟨Bx, dx, nx, hn, rfl, hs, hc, hb⟩
      rw [List.append_assoc, ← HT.out] at hs hn
      have HSX := Lib.hid hs
      have HLX : Hid ((pre ++ ones (vals.take (k + 1))).length = nx) := hn.symm
      have hnx : nx ≤ 17 := by rw [hn, List.length_append, ones_length, List.length_take, HPL.out]; omega
      have HQX := Lib.hid ((hb.block _ (Array.getElem?_eq_some_iff.1 hQ.out).1).trans hQ.out)
      clear hs hn hc hb
      go_wp2_with fail
      go_roundw
      case rel => exact ⟨k + 1, Bx, dx, nx, by omega, by go_num, rfl, hnx, HSX, HLX, HQX⟩
      case measure => simp [intOf]; omega
    · obtain rfl : k = 5 := by omega
      have hs := hS.out
      have hl := hL.out
      rw [List.take_of_length_le (by rw [HVL.out]; exact Nat.le_refl _)] at hs hl
      obtain ⟨pre2, hpre2⟩ : ∃ l : Ia.Bs, l = pre ++ ones vals := ⟨_, rfl⟩
      rw [← hpre2] at hs hl
      have HPRE2 := Lib.hid hpre2
      have HS4 := Lib.hid hs
      have HL4 := Lib.hid hl
      have ci : wr.cell? ⟨w.heap.size, 11, none⟩ = some (.int .i64 (sf : Int)) := by rw [HS4.out.cell, HV.out]; rfl
      clear hS hQ hL HQ HC hpre2 hs hl
      go_wp2_with fail
      clear ci
      refine (rput HS4.out 2 sf nk HL4.out (by omega) (by omega) (by omega) (by omega) (by omega)).mono ?_
      rintro e w5 ⟨B5, d5, n5, hn, rfl, hs, hc, hb⟩
      have hn5 : n5 ≤ 20 := by rw [hn, List.length_append, Ia.le_length, HL4.out]; omega
      have HS5 := Lib.hid hs
      have HL5 : Hid ((pre2 ++ Ia.le 2 sf).length = n5) := hn.symm
      clear hs hn hc hb HS4 HL4
      have ci : w5.cell? ⟨w.heap.size, 12, none⟩ = some (.int .i64 (mf : Int)) := by rw [HS5.out.cell, HV.out]; rfl
      go_wp2_with fail
      clear ci
      refine (rput HS5.out 2 mf n5 HL5.out (by omega) (by omega) (by omega) (by omega) (by omega)).mono ?_
      rintro e w6 ⟨B6, d6, n6, hn, rfl, hs, hc, hb⟩
      have hn6 : n6 ≤ 30 := by rw [hn, List.length_append, Ia.le_length, HL5.out]; omega
      obtain ⟨pre3, hpre3⟩ : ∃ l : Ia.Bs, l = pre2 ++ Ia.le 2 sf ++ Ia.le 2 mf := ⟨_, rfl⟩
      rw [← hpre3] at hs hn
      have HPRE3 := Lib.hid hpre3
      have HS6 := Lib.hid hs
      have HL6 : Hid (pre3.length = n6) := hn.symm
      clear hs hn hc hb hpre3 HS5 HL5
      go_wp2_with fail
      obtain ⟨us, hus⟩ : ∃ l : List Nat, l = first.map Ia.plainN := ⟨_, rfl⟩
      have husl : us.length = first.length := by rw [hus, List.length_map]
      have HUX : Hid (∀ k (h : k < first.length), us[k]? = some (Ia.plainN (first[k]'h))) := by
        intro k h
        rw [hus, List.getElem?_map, List.getElem?_eq_getElem h]; rfl
      have hfz : (first.map fun n => Value.int .i32 n).length = first.length := List.length_map ..
      have HUS := Lib.hid hus
      have HUL := Lib.hid husl
      have HFZ := Lib.hid hfz
      clear hus husl hfz
      have hB6 := HS6.out.bel.size
      go_loopw [6, 7] (fun v i wr => ∃ (k : Nat) (A : Option Addr) (c : Nat), k ≤ first.length ∧ i = .int .i64 k ∧ v = .slice A (4 * k) c ∧ Hid (Src wr A (4 * k) c (bcells (bytes4 (us.take k))) 1) ∧ Hid (Below w6.heap.size w6 wr)) (fun _ i _ => first.length - (intOf i).toNat)
      case atStart => exact ⟨0, none, 0, Nat.zero_le _, rfl, rfl, ⟨rfl, fun _ => ⟨rfl, rfl⟩, fun ad e => (by cases e)⟩, Below.refl _ _⟩
      case round =>
        obtain ⟨k, Af, cf, hk2, rfl, rfl, hO, hB⟩ := hrel
        have HSr := Lib.hid (HS6.out.below hB.out)
        have ci : wr.cell? ⟨w.heap.size, 8, none⟩ = some (.slice A1 first.length c1) := by rw [HSr.out.cell, HV.out]; rfl
        by_cases hlt2 : k < first.length
        · obtain ⟨b, off, rfl⟩ := src_spot HA.out.first (by rw [HFZ.out]; omega)
          have ck : wr.cell? ⟨b, off + k, none⟩ = some (.int .i32 (first[k]'hlt2)) := src_at (HA.out.first.below HSr.out.bel (Nat.le_refl _)) (by rw [List.getElem?_map, List.getElem?_eq_getElem hlt2]; rfl)
          have hrg := HF.out.first _ (List.getElem_mem hlt2)
          have HX : Hid (bytes4 (us.take (k + 1)) = bytes4 (us.take k) ++ Ia.le 4 (Ia.plainN (first[k]'hlt2))) := by
            unfold RowKit.Hid
            have hku : k < us.length := by rw [HUL.out]; exact hlt2
            have h2 := HUX.out k hlt2
            rw [List.getElem?_eq_getElem hku] at h2
            injection h2 with h2
            rw [List.take_succ_eq_append_getElem hku, bytes4_append, h2]
            simp [bytes4]
          have hpx : (Ia.plainN (first[k]'hlt2) : Int) ≤ 4294967295 := by unfold Ia.plainN; omega
          have HLK : Hid ((bytes4 (us.take k)).length = 4 * k) := by unfold RowKit.Hid; rw [bytes4_length, List.length_take, HUL.out]; omega
          generalize first[k]'hlt2 = x at *
          have HP := Lib.hid (fun W => refplain x hrg.1 hrg.2 W)
          clear hrg
          go_wp2_with fail
          refine (HP.out _).mono ?_
          rintro e wz ⟨rfl, rfl⟩
          generalize Ia.plainN x = px at *
          have hno := refnumber (bytes4 (us.take k)) Af cf 4 px wr (by unfold BSrc; rw [HLK.out]; exact hO.out) (by rw [HLK.out]; omega) hpx (by omega) (by omega) (by omega)
          rw [HLK.out, ← HX.out] at hno
          have HNO := Lib.hid hno
          clear hno
          go_wp2_with fail
          refine HNO.out.mono ?_
          rintro e w8 ⟨A8, c8, rfl, hs8, hc8, hb8⟩
          have hl8 : (bytes4 (us.take (k + 1))).length = 4 * (k + 1) := by rw [HX.out, List.length_append, Ia.le_length, HLK.out]; omega
          unfold BSrc at hs8
          rw [hl8] at hs8 ⊢
          have HS8 := Lib.hid hs8
          have HB8 := Lib.hid (hB.out.trans (hb8.mono hB.out.size))
          clear hs8 hc8 hb8 hl8 HNO
          go_wp2_with fail
          go_roundw
          case rel => exact ⟨k + 1, A8, c8, by omega, by go_num, rfl, HS8, HB8⟩
          case measure => simp [intOf]; omega
        · obtain rfl : k = first.length := by omega
          have ho := hO.out
          rw [List.take_of_length_le (by rw [HUL.out]; exact Nat.le_refl _)] at ho
          have HFS := Lib.hid ho
          clear ho hO hB HS6
          have hb4 : (bytes4 us).length = 4 * first.length := by rw [bytes4_length, HUL.out]
          have HB4 := Lib.hid hb4
          clear hb4
          have cj : wr.cell? ⟨w.heap.size, 9, none⟩ = some (.slice A2 step.length c2) := by rw [HSr.out.cell, HV.out]; rfl
          have hse := HF.out.se
          dsimp only at hse
          have hen := refencode step A2 c2 wr (ISrc.at_ (HA.out.step.below HSr.out.bel (Nat.le_refl _))) (by omega) (ins_range HF.out.step)
          rw [encOf_ok (by omega) hse.1] at hen
          dsimp only at hen
          have HEN := Lib.hid hen
          have hel1 : (Ia.encode step).length ≤ 3000 := by have := encode_len step; omega
          clear hen hse
          generalize hes : Ia.encode step = es at *
          have HES := Lib.hid hes
          clear hes
          go_wp2_with fail
          clear ci cj
          refine HEN.out.mono ?_
          rintro e wb ⟨vs, rfl, hos9, hbs⟩
          obtain ⟨As, cs, rfl⟩ := own_slice hos9
          have HSb := Lib.hid (HSr.out.below hbs)
          have HFb := Lib.hid (HFS.out.below hbs (Nat.le_refl _))
          have HEb := Lib.hid (Src.of_own hos9)
          clear hos9 hbs HEN HSr HFS
          have ci : wb.cell? ⟨w.heap.size, 10, none⟩ = some (.slice A3 move.length c3) := by rw [HSb.out.cell, HV.out]; rfl
          have hme := HF.out.me
          dsimp only at hme
          have hen := refencode move A3 c3 wb (ISrc.at_ (HA.out.move.below HSb.out.bel (Nat.le_refl _))) (by omega) (ins_range HF.out.move)
          rw [encOf_ok (by omega) hme.1] at hen
          dsimp only at hen
          have HEN := Lib.hid hen
          have hel2 : (Ia.encode move).length ≤ 3000 := by have := encode_len move; omega
          clear hen hme
          generalize hem : Ia.encode move = em at *
          have HEM := Lib.hid hem
          clear hem
          go_wp2_with fail
          clear ci
          refine HEN.out.mono ?_
          rintro e wd ⟨vm, rfl, hom9, hbm⟩
          obtain ⟨Am, cm, rfl⟩ := own_slice hom9
          have HSd := Lib.hid (HSb.out.below hbm)
          have HFd := Lib.hid (HFb.out.below hbm (Nat.le_refl _))
          have HEd := Lib.hid (Src.below HEb.out hbm (Nat.le_refl _))
          have HMd := Lib.hid (Src.of_own hom9)
          have hr1 := rrun HSd.out (bytes4 us) Af cf n6 HL6.out (by omega) (by unfold BSrc; rw [HB4.out]; exact HFd.out) (by rw [HB4.out]; omega)
          rw [HB4.out] at hr1
          have HR1 := Lib.hid hr1
          clear hom9 hbm HEN HSb HFb HEb hr1
          go_wp2_with fail
          refine HR1.out.mono ?_
          rintro e w9 ⟨B9, d9, n9, hn, rfl, hs, hc, hb⟩
          have hn9 : n9 ≤ 70000 := by rw [hn, List.length_append, runB_length, HB4.out, HL6.out]; omega
          have HSe := Lib.hid hs
          have HL9 : Hid ((pre3 ++ runB (bytes4 us)).length = n9) := hn.symm
          have HEe := Lib.hid (Src.below HEd.out hb (Nat.le_refl _))
          have HMe := Lib.hid (Src.below HMd.out hb (Nat.le_refl _))
          have HR2 := Lib.hid (rrun HSe.out es As cs n9 HL9.out (by omega) HEe.out (by omega))
          clear hn hs hc hb HR1 HEd HMd HSd HFd
          go_wp2_with fail
          refine HR2.out.mono ?_
          rintro e wf ⟨Bf, df, nf, hn, rfl, hs, hc, hb⟩
          have hnf : nf ≤ 80000 := by rw [hn, List.length_append, runB_length, HL9.out]; omega
          have HSf := Lib.hid hs
          have HLf : Hid ((pre3 ++ runB (bytes4 us) ++ runB es).length = nf) := hn.symm
          have HMf := Lib.hid (Src.below HMe.out hb (Nat.le_refl _))
          have HR3 := Lib.hid (rrun HSf.out em Am cm nf HLf.out (by omega) HMf.out (by omega))
          clear hn hs hc hb HR2 HSe HEe HMe
          go_wp2_with fail
          refine HR3.out.mono ?_
          rintro e wg ⟨Bg, dg, ng, hn, rfl, hs, hc, hb⟩
          have hfin : pre3 ++ runB (bytes4 us) ++ runB es ++ runB em = bf := by
            rw [HPRE3.out, HPRE2.out, HPRE.out, HVS.out, HUS.out, ← HES.out, ← HEM.out, hbf.out]
            simp [laidB, numsB, firstB, ones, List.append_assoc]
          rw [hfin] at hn hs
          have HSg := Lib.hid hs
          have HLg := Lib.hid hn
          have HCg := Lib.hid hc
          clear hn hs hc hb hfin HR3 HSf HMf
          go_wp2_with fail
          go_ret
          exact ⟨Bg, dg, by rw [← HLg.out]; rfl, HSg.out.src, by rw [← HLg.out]; exact HCg.out, HSg.out.bel⟩
theorem reflaid (m : Im) (A1 A2 A3 : Option Addr) (c1 c2 c3 : Nat) (w : World) (hA : ImAt w m A1 A2 A3 c1 c2 c3) (hF : Fits m) :
    Calls Try.prog 28 #[imAgg m A1 A2 A3 c1 c2 c3] w (NumPost (laidB m) w) := by
  obtain ⟨ver, frm, el, ⟨sl, ol, nw, is, os⟩, first, step, move, sf, mf⟩ := m
  obtain ⟨vn, rfl⟩ := Int.eq_ofNat_of_zero_le hF.ver.1
  obtain ⟨fn, rfl⟩ := Int.eq_ofNat_of_zero_le hF.frm.1
  obtain ⟨en, rfl⟩ := Int.eq_ofNat_of_zero_le hF.el.1
  obtain ⟨sn, rfl⟩ := Int.eq_ofNat_of_zero_le hF.sl.1
  obtain ⟨nn, rfl⟩ := Int.eq_ofNat_of_zero_le hF.nw.1
  obtain ⟨isn, rfl⟩ := Int.eq_ofNat_of_zero_le hF.is.1
  obtain ⟨on, rfl⟩ := Int.eq_ofNat_of_zero_le hF.os.1
  obtain ⟨sfn, rfl⟩ := Int.eq_ofNat_of_zero_le hF.sf.1
  obtain ⟨mfn, rfl⟩ := Int.eq_ofNat_of_zero_le hF.mf.1
  exact reflaid_n vn fn en sn nn isn on sfn mfn ol first step move A1 A2 A3 c1 c2 c3 w hA hF _ rfl
end Go.Proofs.Ytjhopgmionpkoaa
namespace Go.Proofs.Ytjhopgmionpkoaa
set_option maxRecDepth 20000
open Go.RowKit Mem

/-- an image in bytes, or what is wrong of it -/
def imEnc (m : Im) : Ia.Bs × Int := if chk m ≠ 0 then ([], chk m) else if 2016 < (laidB m).length then ([], 3) else (laidB m, 0)
/-- bytes and an error -/
def EncPost (x : Ia.Bs) (er : Int) (w : World) (e : Ending) (w' : World) : Prop := ∃ A c, e = .returned (.tuple #[.slice A x.length c, .int .i64 er]) ∧ BSrc w' A c x ∧ x.length ≤ c ∧ Below w.heap.size w w'
theorem infoImS : (Try.prog.info? 28).map (·.size) = some 13 := by kernel_rfl
theorem nil_src (w : World) : BSrc w none 0 [] := ⟨rfl, fun _ => ⟨rfl, rfl⟩, fun ad e => (by cases e)⟩
set_option maxRecDepth 100000 in
set_option maxHeartbeats 4000000 in
theorem imencode (m : Im) (A1 A2 A3 : Option Addr) (c1 c2 c3 : Nat) (w : World) (hA : ImAt w m A1 A2 A3 c1 c2 c3) (hl : ImLen m) (ho : ImOk m) :
    Calls Try.prog 11 #[imAgg m A1 A2 A3 c1 c2 c3] w (EncPost (imEnc m).1 (imEnc m).2 w) := by
  have HA := Lib.hid hA
  have HC := Lib.hid (fun W h => imcheck m A1 A2 A3 c1 c2 c3 W h hl ho)
  have HLY := Lib.hid (fun W h => imlay m A1 A2 A3 c1 c2 c3 W h)
  obtain ⟨bf, hbf⟩ : ∃ l, l = laidB m := ⟨_, rfl⟩
  obtain ⟨xb, hxb⟩ : ∃ l, l = (imEnc m).1 := ⟨_, rfl⟩
  obtain ⟨xe, hxe⟩ : ∃ l, l = (imEnc m).2 := ⟨_, rfl⟩
  have HFT : Hid (chk m = 0 → Fits m) := fun h => chk_fits h ho
  have HXB := Lib.hid hxb
  have HXE := Lib.hid hxe
  have HBF := Lib.hid hbf
  rw [← hxb, ← hxe]
  rw [← hbf] at HLY
  clear hA hl ho hbf hxb hxe
  unfold imAgg at *
  go_enter Try.func11, Try.ntmps11
  go_wp2_with fail
  obtain ⟨W0, hW0⟩ : ∃ W0, W0 = w.alloc (.cells #[.int .u32 m.ver, .int .u32 m.frm, .int .i64 m.el, .int .i64 m.fr.sl, .int .i64 m.fr.ol, .int .i64 m.fr.nw, .int .i64 m.fr.is, .int .i64 m.fr.os, .slice A1 m.first.length c1, .slice A2 m.step.length c2, .slice A3 m.move.length c3, .int .i64 m.sf, .int .i64 m.mf] 28) := ⟨_, rfl⟩
  rw [← hW0]
  have HR0 : Hid (W0.heap[w.heap.size]? = some (.cells #[.int .u32 m.ver, .int .u32 m.frm, .int .i64 m.el, .int .i64 m.fr.sl, .int .i64 m.fr.ol, .int .i64 m.fr.nw, .int .i64 m.fr.is, .int .i64 m.fr.os, .slice A1 m.first.length c1, .slice A2 m.step.length c2, .slice A3 m.move.length c3, .int .i64 m.sf, .int .i64 m.mf] 28 (0, 0))) := by unfold RowKit.Hid; rw [hW0]; exact heap_alloc_new _ _
  have HB0 : Hid (Below w.heap.size w W0) := by unfold RowKit.Hid; rw [hW0]; exact (Below.refl _ _).alloc (Nat.le_refl _) _
  clear hW0
  refine (HC.out _ (HA.out.below HB0.out (Nat.le_refl _))).mono ?_
  rintro e w1 ⟨rfl, hb1⟩
  have HR1 := Lib.hid ((hb1.block _ (Array.getElem?_eq_some_iff.1 HR0.out).1).trans HR0.out)
  have HB1 := Lib.hid (HB0.out.trans (hb1.mono HB0.out.size))
  clear hb1 HR0 HB0 HC
  by_cases hz : chk m = 0
  · have HZ := Lib.hid hz
    rw [hz]
    clear hz
    go_wp2_with (refine wpList_load_row rfl 28 (.tmp 1) rfl w.heap.size rfl _ _ _ _ HR1.out Try.underlying28 rfl infoImS ?_)
    refine (HLY.out _ (HA.out.below HB1.out (Nat.le_refl _)) (HFT.out HZ.out)).mono ?_
    rintro e w2 ⟨Ab, cb, rfl, hs, hc, hb⟩
    have HS2 := Lib.hid hs
    have HC2 := Lib.hid hc
    have HB2 := Lib.hid (HB1.out.trans (hb.mono HB1.out.size))
    clear hs hc hb HLY
    by_cases hbig : 2016 < bf.length
    · have HY : Hid (xb = [] ∧ xe = 3) := by
        unfold RowKit.Hid
        rw [HXB.out, HXE.out]
        unfold imEnc
        rw [if_neg (fun h => h HZ.out), ← HBF.out, if_pos hbig]
        exact ⟨rfl, rfl⟩
      have hbig2 : (2016 : Int) < (bf.length : Int) := by omega
      go_wp2_with fail
      go_ret2
      rw [HY.out.1, HY.out.2]
      exact ⟨none, 0, rfl, nil_src _, Nat.le_refl _, HB2.out⟩
    · have HY : Hid (xb = bf ∧ xe = 0) := by
        unfold RowKit.Hid
        rw [HXB.out, HXE.out]
        unfold imEnc
        rw [if_neg (fun h => h HZ.out), ← HBF.out, if_neg hbig]
        exact ⟨rfl, rfl⟩
      have hbig2 : ¬ (2016 : Int) < (bf.length : Int) := by omega
      go_wp2_with fail
      go_ret2
      rw [HY.out.1, HY.out.2]
      exact ⟨Ab, cb, rfl, HS2.out, HC2.out, HB2.out⟩
  · have HY : Hid (xb = [] ∧ xe = chk m) := by
      unfold RowKit.Hid
      rw [HXB.out, HXE.out]
      unfold imEnc
      rw [if_pos hz]
      exact ⟨rfl, rfl⟩
    have bz : (chk m == 0) = false := by simpa using hz
    have bz2 : (chk m != 0) = true := by simpa using hz
    clear hz
    go_wp2_with fail
    go_ret2
    rw [HY.out.1, HY.out.2]
    exact ⟨none, 0, rfl, nil_src _, Nat.le_refl _, HB1.out⟩
set_option maxRecDepth 100000 in
set_option maxHeartbeats 4000000 in
theorem refimencode (m : Im) (A1 A2 A3 : Option Addr) (c1 c2 c3 : Nat) (w : World) (hA : ImAt w m A1 A2 A3 c1 c2 c3) (hl : ImLen m) (ho : ImOk m) :
    Calls Try.prog 12 #[imAgg m A1 A2 A3 c1 c2 c3] w (EncPost (imEnc m).1 (imEnc m).2 w) := by
  have HA := Lib.hid hA
  have HC := Lib.hid (fun W h => refimcheck m A1 A2 A3 c1 c2 c3 W h hl ho)
  have HLY := Lib.hid (fun W h => reflaid m A1 A2 A3 c1 c2 c3 W h)
  obtain ⟨bf, hbf⟩ : ∃ l, l = laidB m := ⟨_, rfl⟩
  obtain ⟨xb, hxb⟩ : ∃ l, l = (imEnc m).1 := ⟨_, rfl⟩
  obtain ⟨xe, hxe⟩ : ∃ l, l = (imEnc m).2 := ⟨_, rfl⟩
  have HFT : Hid (chk m = 0 → Fits m) := fun h => chk_fits h ho
  have HXB := Lib.hid hxb
  have HXE := Lib.hid hxe
  have HBF := Lib.hid hbf
  rw [← hxb, ← hxe]
  rw [← hbf] at HLY
  clear hA hl ho hbf hxb hxe
  unfold imAgg at *
  go_enter Try.func12, Try.ntmps12
  go_wp2_with fail
  obtain ⟨W0, hW0⟩ : ∃ W0, W0 = w.alloc (.cells #[.int .u32 m.ver, .int .u32 m.frm, .int .i64 m.el, .int .i64 m.fr.sl, .int .i64 m.fr.ol, .int .i64 m.fr.nw, .int .i64 m.fr.is, .int .i64 m.fr.os, .slice A1 m.first.length c1, .slice A2 m.step.length c2, .slice A3 m.move.length c3, .int .i64 m.sf, .int .i64 m.mf] 28) := ⟨_, rfl⟩
  rw [← hW0]
  have HR0 : Hid (W0.heap[w.heap.size]? = some (.cells #[.int .u32 m.ver, .int .u32 m.frm, .int .i64 m.el, .int .i64 m.fr.sl, .int .i64 m.fr.ol, .int .i64 m.fr.nw, .int .i64 m.fr.is, .int .i64 m.fr.os, .slice A1 m.first.length c1, .slice A2 m.step.length c2, .slice A3 m.move.length c3, .int .i64 m.sf, .int .i64 m.mf] 28 (0, 0))) := by unfold RowKit.Hid; rw [hW0]; exact heap_alloc_new _ _
  have HB0 : Hid (Below w.heap.size w W0) := by unfold RowKit.Hid; rw [hW0]; exact (Below.refl _ _).alloc (Nat.le_refl _) _
  clear hW0
  refine (HC.out _ (HA.out.below HB0.out (Nat.le_refl _))).mono ?_
  rintro e w1 ⟨rfl, hb1⟩
  have HR1 := Lib.hid ((hb1.block _ (Array.getElem?_eq_some_iff.1 HR0.out).1).trans HR0.out)
  have HB1 := Lib.hid (HB0.out.trans (hb1.mono HB0.out.size))
  clear hb1 HR0 HB0 HC
  by_cases hz : chk m = 0
  · have HZ := Lib.hid hz
    rw [hz]
    clear hz
    go_wp2_with (refine wpList_load_row rfl 28 (.tmp 1) rfl w.heap.size rfl _ _ _ _ HR1.out Try.underlying28 rfl infoImS ?_)
    refine (HLY.out _ (HA.out.below HB1.out (Nat.le_refl _)) (HFT.out HZ.out)).mono ?_
    rintro e w2 ⟨Ab, cb, rfl, hs, hc, hb⟩
    have HS2 := Lib.hid hs
    have HC2 := Lib.hid hc
    have HB2 := Lib.hid (HB1.out.trans (hb.mono HB1.out.size))
    clear hs hc hb HLY
    by_cases hbig : 2016 < bf.length
    · have HY : Hid (xb = [] ∧ xe = 3) := by
        unfold RowKit.Hid
        rw [HXB.out, HXE.out]
        unfold imEnc
        rw [if_neg (fun h => h HZ.out), ← HBF.out, if_pos hbig]
        exact ⟨rfl, rfl⟩
      have hbig2 : (2016 : Int) < (bf.length : Int) := by omega
      go_wp2_with fail
      go_ret2
      rw [HY.out.1, HY.out.2]
      exact ⟨none, 0, rfl, nil_src _, Nat.le_refl _, HB2.out⟩
    · have HY : Hid (xb = bf ∧ xe = 0) := by
        unfold RowKit.Hid
        rw [HXB.out, HXE.out]
        unfold imEnc
        rw [if_neg (fun h => h HZ.out), ← HBF.out, if_neg hbig]
        exact ⟨rfl, rfl⟩
      have hbig2 : ¬ (2016 : Int) < (bf.length : Int) := by omega
      go_wp2_with fail
      go_ret2
      rw [HY.out.1, HY.out.2]
      exact ⟨Ab, cb, rfl, HS2.out, HC2.out, HB2.out⟩
  · have HY : Hid (xb = [] ∧ xe = chk m) := by
      unfold RowKit.Hid
      rw [HXB.out, HXE.out]
      unfold imEnc
      rw [if_pos hz]
      exact ⟨rfl, rfl⟩
    have bz : (chk m == 0) = false := by simpa using hz
    have bz2 : (chk m != 0) = true := by simpa using hz
    clear hz
    go_wp2_with fail
    go_ret2
    rw [HY.out.1, HY.out.2]
    exact ⟨none, 0, rfl, nil_src _, Nat.le_refl _, HB1.out⟩
end Go.Proofs.Ytjhopgmionpkoaa
