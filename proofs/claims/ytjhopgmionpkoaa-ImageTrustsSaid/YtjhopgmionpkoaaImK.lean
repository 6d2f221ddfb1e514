/-
  The image of bytes: the function Parse.
-/
import Derived.Test.YtjhopgmionpkoaaImI
import Derived.Test.YtjhopgmionpkoaaImLaw
namespace Go.Proofs.Ytjhopgmionpkoaa
set_option maxRecDepth 20000
open Go.RowKit Mem

def ParsePost (m : Im) (er : Int) (w : World) (e : Ending) (w' : World) : Prop := ∃ A1 A2 A3 c1 c2 c3, e = .returned (.tuple #[imAgg m A1 A2 A3 c1 c2 c3, .int .i64 er]) ∧ ImNew w.heap.size w' m A1 A2 A3 c1 c2 c3 ∧ Below w.heap.size w w'
theorem imNew_zero (B : Nat) (w : World) : ImNew B w Im.zero none none none 0 0 0 := ⟨World.ownsRow_nil _ _ _ _, World.ownsRow_nil _ _ _ _, World.ownsRow_nil _ _ _ _⟩
theorem own_setRow {w : World} {B g : Nat} {e : TypeId} {size : Nat} {v : Value} {n : Nat} {xs : List Value} (h : w.ownsRow B e size v n xs) (hg : g < B) (cs : Array Value) : (w.setRow g cs).ownsRow B e size v n xs :=
  h.kept (grown_setRow w g cs) (by
    rcases hb : v.ownBlock with _ | k
    · exact .inl rfl
    · right
      have := (h.lt k hb).1
      intro e; injection e with e; omega)
theorem ImNew.setRow {B g : Nat} {w : World} {m : Im} {A1 A2 A3 : Option Addr} {c1 c2 c3 : Nat} (h : ImNew B w m A1 A2 A3 c1 c2 c3) (hg : g < B) (cs : Array Value) : ImNew B (w.setRow g cs) m A1 A2 A3 c1 c2 c3 := ⟨own_setRow h.first hg cs, own_setRow h.step hg cs, own_setRow h.move hg cs⟩
theorem imrow_one (m : Im) (A1 A2 A3 : Option Addr) (c1 c2 c3 : Nat) : (#[.int .u32 m.ver, .int .u32 m.frm, .int .i64 m.el, .int .i64 m.fr.sl, .int .i64 m.fr.ol, .int .i64 m.fr.nw, .int .i64 m.fr.is, .int .i64 m.fr.os, .slice A1 m.first.length c1, .slice A2 m.step.length c2, .slice A3 m.move.length c3, .int .i64 m.sf, .int .i64 m.mf] : Array Value).all (·.oneCell') = true := by simp [Value.oneCell']
set_option maxRecDepth 100000 in
set_option maxHeartbeats 8000000 in
theorem imparse (bs : Ia.Bs) (A : Option Addr) (c : Nat) (w : World) (hA : BytesAt w A bs) (hc : bs.length ≤ c) (hn : bs.length ≤ 1000000) :
    Calls Try.prog 16 #[.slice A bs.length c] w (ParsePost (imParse bs).1 (imParse bs).2 w) := by
  have HA := Lib.hid hA
  have HRD := Lib.hid (fun W h => imread bs A c W h hc hn)
  have HB0 : Hid (∀ X, Below w.heap.size w (w.alloc X)) := fun X => (Below.refl _ _).alloc (Nat.le_refl _) X
  have HZ0 : Hid (∀ X, (w.alloc X).heap[w.heap.size]? = some X) := fun X => heap_alloc_new _ _
  obtain ⟨pm, hpm⟩ : ∃ p, p = imParse bs := ⟨_, rfl⟩
  rw [← hpm]
  have HPM := Lib.hid hpm
  clear hA hpm
  by_cases hbig : 2016 < bs.length
  · have HP : Hid (pm = (Im.zero, 3)) := by unfold RowKit.Hid; rw [HPM.out]; unfold imParse; rw [if_pos hbig]
    have hb : (2016 : Int) < (bs.length : Int) := by omega
    go_enter Try.func16, Try.ntmps16
    have HZ := Lib.hid (HZ0.out (.cells #[.int .u32 0, .int .u32 0, .int .i64 0, .int .i64 0, .int .i64 0, .int .i64 0, .int .i64 0, .int .i64 0, .slice none 0 0, .slice none 0 0, .slice none 0 0, .int .i64 0, .int .i64 0] 28))
    go_wp2_with (refine wpList_store_row rfl 28 (.tmp 2) (.tmp 10) rfl w.heap.size _ rfl rfl _ _ HZ.out infoImS rfl zrow_one ?_)
    refine ret_im (v := .int .i64 (3)) 2 3 ?r1 ?r2 ?r3 ?r4 (setRow_heap _ _ _ #[.int .u32 0, .int .u32 0, .int .i64 0, .int .i64 0, .int .i64 0, .int .i64 0, .int .i64 0, .int .i64 0, .slice none 0 0, .slice none 0 0, .slice none 0 0, .int .i64 0, .int .i64 0] _ _ HZ.out) ?r5 ?_
    case r1 => rfl
    case r2 => rfl
    case r3 => rfl
    case r4 => rfl
    case r5 => rfl
    exact by rw [HP.out]; exact ⟨none, none, none, 0, 0, 0, rfl, imNew_zero _ _, below_setRow_ (HB0.out _) (Nat.le_refl _)⟩
  · have hb : ¬ (2016 : Int) < (bs.length : Int) := by omega
    go_enter Try.func16, Try.ntmps16
    go_wp2_with fail
    obtain ⟨W0, hW0⟩ : ∃ W0, W0 = w.alloc (.cells #[.int .u32 0, .int .u32 0, .int .i64 0, .int .i64 0, .int .i64 0, .int .i64 0, .int .i64 0, .int .i64 0, .slice none 0 0, .slice none 0 0, .slice none 0 0, .int .i64 0, .int .i64 0] 28) := ⟨_, rfl⟩
    rw [← hW0]
    have HZ1 : Hid (W0.heap[w.heap.size]? = some (.cells #[.int .u32 0, .int .u32 0, .int .i64 0, .int .i64 0, .int .i64 0, .int .i64 0, .int .i64 0, .int .i64 0, .slice none 0 0, .slice none 0 0, .slice none 0 0, .int .i64 0, .int .i64 0] 28 (0, 0))) := by unfold RowKit.Hid; rw [hW0]; exact heap_alloc_new _ _
    have HB1 : Hid (Below w.heap.size w W0) := by unfold RowKit.Hid; rw [hW0]; exact HB0.out _
    have hz0 : w.heap.size < W0.heap.size := by rw [hW0]; simp
    clear hW0
    refine (HRD.out _ (HA.out.below HB1.out (Nat.le_refl _))).mono ?_
    rintro e w1 (⟨m, A1, A2, A3, c1, c2, c3, hrd, rfl, hnew, hb1⟩ | ⟨hrd, m, A1, A2, A3, c1, c2, c3, rfl, hb1⟩)
    · have HNEW := Lib.hid hnew
      have HZ2 := Lib.hid ((hb1.block _ (Array.getElem?_eq_some_iff.1 HZ1.out).1).trans HZ1.out)
      have HB2 := Lib.hid (HB1.out.trans (hb1.mono HB1.out.size))
      have hz1 := hb1.size
      have hok : ImOk m := (rd_only hrd).2.1.toImOk
      have hfit := (rd_only hrd).2.1
      have hlen : ImLen m := ⟨by have := hfit.fl; omega, by have := hfit.se.2; omega, by have := hfit.me.2; omega⟩
      have HRDM := Lib.hid hrd
      have HC := Lib.hid (fun W h => imcheck m A1 A2 A3 c1 c2 c3 W h hlen hok)
      clear hnew hb1 hrd hok hlen hfit HZ1 HB1 HRD
      unfold imAgg at *
      go_wp2_with fail
      obtain ⟨W2, hW2⟩ : ∃ W2, W2 = w1.alloc (.cells #[.int .u32 m.ver, .int .u32 m.frm, .int .i64 m.el, .int .i64 m.fr.sl, .int .i64 m.fr.ol, .int .i64 m.fr.nw, .int .i64 m.fr.is, .int .i64 m.fr.os, .slice A1 m.first.length c1, .slice A2 m.step.length c2, .slice A3 m.move.length c3, .int .i64 m.sf, .int .i64 m.mf] 28) := ⟨_, rfl⟩
      rw [← hW2]
      have HM2 : Hid (W2.heap[w1.heap.size]? = some (.cells #[.int .u32 m.ver, .int .u32 m.frm, .int .i64 m.el, .int .i64 m.fr.sl, .int .i64 m.fr.ol, .int .i64 m.fr.nw, .int .i64 m.fr.is, .int .i64 m.fr.os, .slice A1 m.first.length c1, .slice A2 m.step.length c2, .slice A3 m.move.length c3, .int .i64 m.sf, .int .i64 m.mf] 28 (0, 0))) := by unfold RowKit.Hid; rw [hW2]; exact heap_alloc_new _ _
      have HB3 : Hid (Below w1.heap.size w1 W2) := by unfold RowKit.Hid; rw [hW2]; exact (Below.refl _ _).alloc (Nat.le_refl _) _
      clear hW2
      refine (HC.out _ (HNEW.out.below HB3.out).at_).mono ?_
      rintro e w3 ⟨rfl, hb3⟩
      have HN3 := Lib.hid ((HNEW.out.below HB3.out).below hb3)
      have HM3 := Lib.hid ((hb3.block _ (Array.getElem?_eq_some_iff.1 HM2.out).1).trans HM2.out)
      have hbt := HB3.out.trans (hb3.mono HB3.out.size)
      have HZ3 := Lib.hid ((hbt.block _ (Array.getElem?_eq_some_iff.1 HZ2.out).1).trans HZ2.out)
      have HBt := Lib.hid (HB2.out.trans (hbt.mono HB2.out.size))
      clear hb3 hbt HM2 HB3 HC HZ2 HB2 HNEW
      by_cases hz : chk m = 0
      · have HP : Hid (pm = (m, 0)) := by unfold RowKit.Hid; rw [HPM.out]; unfold imParse; rw [if_neg hbig, HRDM.out]; dsimp only; rw [if_neg (fun h => h hz)]
        rw [hz]
        clear hz
        go_wp2_with (first | refine wpList_load_row rfl 28 (.tmp 4) rfl w1.heap.size rfl _ _ _ _ HM3.out Try.underlying28 rfl infoImS ?_ | refine wpList_store_row rfl 28 (.tmp 2) (.tmp 25) rfl w.heap.size _ rfl rfl _ _ HZ3.out infoImS rfl (imrow_one m A1 A2 A3 c1 c2 c3) ?_)
        refine ret_im (v := .int .i64 0) 2 3 ?r1 ?r2 ?r3 ?r4 (setRow_heap _ _ _ #[.int .u32 m.ver, .int .u32 m.frm, .int .i64 m.el, .int .i64 m.fr.sl, .int .i64 m.fr.ol, .int .i64 m.fr.nw, .int .i64 m.fr.is, .int .i64 m.fr.os, .slice A1 m.first.length c1, .slice A2 m.step.length c2, .slice A3 m.move.length c3, .int .i64 m.sf, .int .i64 m.mf] _ _ HZ3.out) ?r5 ?_
        case r1 => rfl
        case r2 => rfl
        case r3 => rfl
        case r4 => rfl
        case r5 => rfl
        rw [HP.out]
        exact ⟨A1, A2, A3, c1, c2, c3, rfl, (HN3.out.setRow hz0 _).base (Nat.le_of_lt hz0), below_setRow_ HBt.out (Nat.le_refl _)⟩
      · have HP : Hid (pm = (Im.zero, chk m)) := by unfold RowKit.Hid; rw [HPM.out]; unfold imParse; rw [if_neg hbig, HRDM.out]; dsimp only; rw [if_pos hz]
        have bz : (chk m == 0) = false := by simpa using hz
        have bz2 : (chk m != 0) = true := by simpa using hz
        clear hz
        go_wp2_with (refine wpList_store_row rfl 28 (.tmp 2) (.tmp 23) rfl w.heap.size _ rfl rfl _ _ HZ3.out infoImS rfl zrow_one ?_)
        refine ret_im (v := .int .i64 (chk m)) 2 3 ?r1 ?r2 ?r3 ?r4 (setRow_heap _ _ _ #[.int .u32 0, .int .u32 0, .int .i64 0, .int .i64 0, .int .i64 0, .int .i64 0, .int .i64 0, .int .i64 0, .slice none 0 0, .slice none 0 0, .slice none 0 0, .int .i64 0, .int .i64 0] _ _ HZ3.out) ?r5 ?_
        case r1 => rfl
        case r2 => rfl
        case r3 => rfl
        case r4 => rfl
        case r5 => rfl
        rw [HP.out]
        exact ⟨none, none, none, 0, 0, 0, rfl, imNew_zero _ _, below_setRow_ HBt.out (Nat.le_refl _)⟩
    · have HP : Hid (pm = (Im.zero, 4)) := by unfold RowKit.Hid; rw [HPM.out]; unfold imParse; rw [if_neg hbig, hrd]
      have HZ2 := Lib.hid ((hb1.block _ (Array.getElem?_eq_some_iff.1 HZ1.out).1).trans HZ1.out)
      have HB2 := Lib.hid (HB1.out.trans (hb1.mono HB1.out.size))
      have hz1 := hb1.size
      have HZ3 : Hid (∀ X, (w1.alloc X).heap[w.heap.size]? = some (.cells #[.int .u32 0, .int .u32 0, .int .i64 0, .int .i64 0, .int .i64 0, .int .i64 0, .int .i64 0, .int .i64 0, .slice none 0 0, .slice none 0 0, .slice none 0 0, .int .i64 0, .int .i64 0] 28 (0, 0))) := fun X => (heap_alloc_old _ _ (by omega)).trans HZ2.out
      have HB3 : Hid (∀ X, Below w.heap.size w (w1.alloc X)) := fun X => HB2.out.alloc HB2.out.size X
      clear hb1 hrd HZ1 HB1 HRD HZ2 HB2
      unfold imAgg
      go_wp2_with (refine wpList_store_row rfl 28 (.tmp 2) (.tmp 18) rfl w.heap.size _ rfl rfl _ _ (HZ3.out _) infoImS rfl zrow_one ?_)
      refine ret_im (v := .int .i64 4) 2 3 ?r1 ?r2 ?r3 ?r4 (setRow_heap _ _ _ #[.int .u32 0, .int .u32 0, .int .i64 0, .int .i64 0, .int .i64 0, .int .i64 0, .int .i64 0, .int .i64 0, .slice none 0 0, .slice none 0 0, .slice none 0 0, .int .i64 0, .int .i64 0] _ _ (HZ3.out _)) ?r5 ?_
      case r1 => rfl
      case r2 => rfl
      case r3 => rfl
      case r4 => rfl
      case r5 => rfl
      rw [HP.out]
      exact ⟨none, none, none, 0, 0, 0, rfl, imNew_zero _ _, below_setRow_ (HB3.out _) (Nat.le_refl _)⟩
end Go.Proofs.Ytjhopgmionpkoaa
