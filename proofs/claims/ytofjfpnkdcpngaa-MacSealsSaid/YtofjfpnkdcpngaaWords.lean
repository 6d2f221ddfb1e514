/-
  The reference's functions on bytes with a mark behind them: Lent, Kept, Spoil.
-/
import Derived.Test.YtofjfpnkdcpngaaByt
import Derived.Laws.OwnMore
import Derived.Maps.AppendAt
import Derived.Deep.AppendLies
namespace Go.Proofs.Ytofjfpnkdcpngaa
open Go.RowKit Mem

/-- a slice value that reads as these bytes -/
abbrev BSrc (w : World) (A : Option Addr) (c : Nat) (bs : List UInt8) : Prop := Src w A bs.length c (bcells bs) 1
theorem BSrc.at_ {w : World} {A : Option Addr} {c : Nat} {bs : List UInt8} (h : BSrc w A c bs) : BytesAt w A bs := by
  intro k hk
  rcases A with _ | ad
  · have := (h.none rfl).1; omega
  · have hc := h.some ad rfl k _ (bcells_at bs k hk)
    obtain ⟨b, off, sp⟩ := ad
    have hsp : sp = none := by
      have h0 : ((⟨b, off, sp⟩ : Addr).add 0).spot = none := World.cell?_spot (h.some _ rfl 0 _ (bcells_at bs 0 (by omega)))
      simpa [Addr.add] using h0
    subst hsp
    rw [add_plain] at hc
    exact ⟨b, off, rfl, hc⟩
/-- bytes with a mark behind them, in memory that is nobody else's -/
def LentAt (w : World) (B : Nat) (A : Option Addr) (c : Nat) (bs : List UInt8) : Prop := w.ownsRow B 5 1 (.slice A (bs.length + 1) c) (bs.length + 1) (bcells (bs ++ [77]))
theorem LentAt.at_ {w : World} {B c : Nat} {A : Option Addr} {bs : List UInt8} (h : LentAt w B A c bs) : BytesAt w A bs := by
  have h1 : BytesAt w A (bs ++ [77]) := BytesAt.of_own h
  intro k hk
  obtain ⟨b, off, e, hc⟩ := h1 k (by simp; omega)
  exact ⟨b, off, e, by rw [hc, List.getElem_append_left hk]⟩
theorem LentAt.form {w : World} {B c : Nat} {A : Option Addr} {bs : List UInt8} (h : LentAt w B A c bs) : ∃ g, A = some ⟨g, 0, none⟩ ∧ B ≤ g ∧ g < w.heap.size ∧ bs.length + 1 ≤ c ∧ c ≤ maxLen ∧ w.cell? ⟨g, bs.length, none⟩ = some (.int .u8 77) := by
  rcases h.2 with ⟨_, h2⟩ | ⟨g, cap, cur, hv, hB, hg, hn', hc, hs, ht⟩
  · omega
  · injection hv with hv1 hv2 hv3
    subst hv1 hv3
    refine ⟨g, rfl, hB, (Array.getElem?_eq_some_iff.1 hg).1, hn', hc, ?_⟩
    obtain ⟨b', off', e, hc⟩ := BytesAt.of_own h bs.length (by simp)
    simp only [Option.some.injEq, Addr.mk.injEq, and_true] at e
    obtain ⟨rfl, rfl⟩ := e
    simpa using hc
theorem LentAt.below {w w' : World} {B B' c : Nat} {A : Option Addr} {bs : List UInt8} (h : LentAt w B A c bs) (hb : Below B' w w') (hB : w.heap.size ≤ B') : LentAt w' B A c bs := own_below h (hb.mono hB)
set_option maxHeartbeats 4000000 in
theorem wlent (bs : List UInt8) (A : Option Addr) (c : Nat) (w : World) (hA : BSrc w A c bs) (hn : bs.length ≤ 140737488351232) :
    Calls Try.prog 10 #[.slice A bs.length c] w fun e w' => ∃ A' c', e = .returned (.slice A' bs.length c') ∧ LentAt w' w.heap.size A' c' bs ∧ Below w.heap.size w w' := by
  have HA := Lib.hid hA
  clear hA
  obtain ⟨i0, hi, hi0, hi1, hi2⟩ := info_parts infoByte
  go_enter Try.func10, Try.ntmps10
  go_wp2_with (at_builtin; refine wpList_app_any rfl (.tmp 4) (.tmp 5) 22 rfl w.heap.size 5 i0 (.int .u8 0) 1 1 Try.underlying22 hi hi0 hi1 hi2 rfl (by decide) (.slice none 0 0) 0 [] rfl (World.ownsRow_nil _ _ _ _) A bs.length c (bcells bs) rfl HA.out (bcells_one bs) ?c3 ?c4 (Nat.le_refl _) ?_)
  case c3 => unfold maxLen; omega
  case c4 => omega
  intro v1 w1 hown1 hg1
  have HB1 : Hid (Below w.heap.size w w1) := (Below.refl _ _).grown hg1 (Nat.le_refl _) (by simp [Value.ownBlock])
  try simp only [Nat.zero_add, List.nil_append] at hown1
  have HO1 := Lib.hid hown1
  clear hown1 hg1
  go_wp2_with (at_builtin; refine wpList_append_own _ rfl (.tmp 7) (.tmp 8) 22 rfl w.heap.size 5 i0 (.int .u8 0) 1 1 Try.underlying22 hi hi0 hi1 hi2 rfl (by decide) v1 bs.length (bcells bs) rfl (HO1.out.alloc _) ⟨w1.heap.size, 0, none⟩ 1 1 [.int .u8 77] rfl rfl ?c1 ?c2 ?c3 ?c4 ?c5 ?_)
  case c1 => exact cells_new _ _ _ _ rfl
  case c2 => intro u hu; rw [List.mem_singleton] at hu; subst hu; rfl
  case c3 => unfold maxLen; omega
  case c4 => omega
  case c5 => have := HB1.out.size; simp; omega
  intro v2 w2 hown2 hg2 _
  have HB2 : Hid (Below w.heap.size w w2) := (HB1.out.alloc HB1.out.size _).grown hg2 (by have := HB1.out.size; simp; omega) (fun b hb => (HO1.out.lt b hb).1)
  have hown2' : w2.ownsRow w.heap.size 5 1 v2 (bs.length + 1) (bcells (bs ++ [77])) := by
    rw [bcells_append]
    simpa [bcells] using hown2
  obtain ⟨A2, c2, rfl⟩ := own_slice hown2'
  obtain ⟨g, rfl, _, hg, hc2, hm2, _⟩ := LentAt.form hown2'
  have HO2 := Lib.hid hown2'
  clear hown2 hg2 hown2'
  unfold maxLen at hm2
  go_wp2_with fail
  go_ret
  exact ⟨_, _, rfl, HO2.out, HB2.out⟩
set_option maxHeartbeats 4000000 in
theorem wkept (bs : List UInt8) (A A' : Option Addr) (c c' B : Nat) (w : World) (hA : LentAt w B A c bs) (hA' : BytesAt w A' bs) :
    Calls Try.prog 15 #[.slice A bs.length c, .slice A' bs.length c'] w fun e w' => e = .returned (.bool true) ∧ w = w' := by
  have c1 := conv_bytes w A c bs hA.at_
  have c2 := conv_bytes w A' c' bs hA'
  obtain ⟨g, rfl, _, hg, hc2, hm2, hm⟩ := hA.form
  clear hA hA'
  unfold maxLen at hm2
  go_enter Try.func15, Try.ntmps15
  go_wp2_with fail
  go_ret
  exact ⟨rfl, rfl⟩
theorem grown_setCell (w : World) (g j : Nat) (u : Value) : w.grownBy (w.setCell ⟨g, j, none⟩ u) (some g) :=
  ⟨rfl, rfl, rfl, by simp, fun k _ hk => heap_setCell_other w ⟨g, j, none⟩ k u (fun e => hk (by simp [e]))⟩
theorem grown_new {w w' : World} {g : Nat} (h : w.grownBy w' (some g)) (hg : w.heap.size ≤ g) (row : Option Nat) : w.grownBy w' row :=
  ⟨h.os, h.tape, h.output, h.size, fun k hk _ => h.block k hk (fun e => by injection e; omega)⟩
theorem below_of_grown {B : Nat} {w w' : World} {row : Option Nat} (h : w.grownBy w' row) (hB : B ≤ w.heap.size) (hr : ∀ g, row = some g → B ≤ g) : Below B w w' := (Below.refl _ _).grown h hB hr
set_option maxHeartbeats 4000000 in
theorem wspoil (bs : List UInt8) (v : Value) (base : Nat) (w : World) (hA : w.ownsRow base 5 1 v bs.length (bcells bs)) (hbase : base ≤ w.heap.size) (hn : bs.length ≤ 140737488351232) :
    Calls Try.prog 23 #[v] w fun e w' => (∃ r, e = .returned r) ∧ w.grownBy w' v.ownBlock := by
  obtain ⟨A, c, rfl⟩ := own_slice hA
  have HA : Hid (∃ g, 0 < bs.length → A = some ⟨g, 0, none⟩) := by
    rcases hA.2 with ⟨_, h⟩ | ⟨g, cap, cur, hv, _⟩
    · exact ⟨0, fun h' => by omega⟩
    · injection hv with h1
      exact ⟨g, fun _ => h1⟩
  have HO := Lib.hid hA
  clear hA
  obtain ⟨i0, hi, hi0, hi1, hi2⟩ := info_parts infoByte
  go_enter Try.func23, Try.ntmps23
  go_wp2_with fail
  go_loopw [2] (fun i wr => ∃ (k : Nat) (xs : List Value), k ≤ bs.length ∧ i = .int .i64 k ∧ Hid (wr.ownsRow base 5 1 (.slice A bs.length c) bs.length xs) ∧ Hid (w.grownBy wr (Value.ownBlock (.slice A bs.length c))) ∧ Hid (∀ j, k ≤ j → xs[j]? = (bcells bs)[j]?)) (fun i _ => bs.length - (intOf i).toNat)
  case atStart => exact ⟨0, bcells bs, Nat.zero_le _, rfl, HO, World.grownBy.refl _ _, fun _ _ => rfl⟩
  case round =>
    obtain ⟨k, xs, hk, rfl, hO, hG, hX⟩ := hrel
    by_cases hlt : k < bs.length
    · obtain ⟨g, hg⟩ := HA.out
      obtain rfl := hg (by omega)
      clear hg
      have hx := (hX.out k (Nat.le_refl _)).trans (bcells_at bs k hlt)
      have hcell := hO.out.cells (g := g) rfl k _ hx
      rw [add_at] at hcell
      have hfr := hO.out.frozenAt k
      have hcb : ((bs[k]'hlt).toNat : Int) ≤ 255 := by have := (bs[k]'hlt).toNat_lt; omega
      obtain ⟨u, hu⟩ : ∃ u : Value, u = .int .u8 (bits .xor .u8 ((bs[k]'hlt).toNat : Int) 90) := ⟨_, rfl⟩
      obtain ⟨hst, hgr⟩ := hO.out.stored k u
      have HST := Lib.hid hst
      have HGR := Lib.hid (World.grownBy.trans hG.out hgr)
      have HX2 : Hid (∀ j, k + 1 ≤ j → (xs.set k u)[j]? = (bcells bs)[j]?) := fun j hj => by rw [List.getElem?_set_ne (by omega)]; exact hX.out j (by omega)
      have HU := Lib.hid hu
      clear hst hgr hx hu
      go_wp2_with fail
      rw [← HU.out]
      go_roundw
      case rel => exact ⟨k + 1, _, by omega, by go_num, HST, HGR, HX2⟩
      case measure => simp [intOf]; omega
    · obtain rfl : k = bs.length := by omega
      have hw := hG.out.size
      go_wp2_with (at_builtin; refine wpList_append_own_at _ rfl (.tmp 17) (.tmp 18) 22 rfl base 5 i0 (.int .u8 0) 1 1 Try.underlying22 hi hi0 hi1 hi2 rfl (by decide) (.slice A bs.length c) bs.length xs rfl (hO.out.alloc _) ⟨wr.heap.size, 0, none⟩ 1 1 [.int .u8 99] rfl rfl ?c1 ?c2 ?c3 ?c4 ?c5 ?_)
      case c1 => exact cells_new _ _ _ _ rfl
      case c2 => intro u hu; rw [List.mem_singleton] at hu; subst hu; rfl
      case c3 => unfold maxLen; omega
      case c4 => omega
      case c5 => simp; omega
      intro v2 w2 hown2 hg2 _ hat
      have HG2 : Hid (w.grownBy w2 (Value.ownBlock (.slice A bs.length c))) := World.grownBy.trans (World.grownBy.trans hG.out (World.grownBy_alloc _ _ _)) hg2
      obtain ⟨g2, cap2, rfl, hb2, hgl2⟩ := hown2.form (by omega)
      have HT : Hid (∀ u, w.grownBy (w2.setCell ⟨g2, bs.length, none⟩ u) (Value.ownBlock (.slice A bs.length c))) := fun u => by
        rcases hat with h | h
        · exact World.grownBy.trans HG2.out (by rw [← h]; exact grown_setCell _ _ _ _)
        · have hz : g2 = wr.heap.size + 1 := by simpa [Value.ownBlock] using h
          refine ⟨HG2.out.os, HG2.out.tape, HG2.out.output, Nat.le_trans HG2.out.size (by simp), fun k hk hne => ?_⟩
          rw [heap_setCell_other _ _ _ _ (by simp; omega)]
          exact HG2.out.block k hk hne
      have hfr := hown2.frozenAt bs.length
      have hlast : (xs ++ [Value.int .u8 99])[bs.length]? = some (Value.int .u8 99) := by
        have := hO.out.1
        rw [List.getElem?_append_right (by omega)]
        have e : bs.length - xs.length = 0 := by omega
        rw [e]; rfl
      have hcell := hown2.cells (g := g2) rfl bs.length _ hlast
      rw [add_at] at hcell
      clear hown2 hg2 hat hlast
      go_wp2_with fail
      go_end0
      exact ⟨⟨_, rfl⟩, HT.out _⟩
end Go.Proofs.Ytofjfpnkdcpngaa
