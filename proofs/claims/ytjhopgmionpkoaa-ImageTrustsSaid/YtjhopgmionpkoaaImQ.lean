/-
  The signed image: the functions Sign and Open.
-/
import Derived.Test.YtjhopgmionpkoaaImK
import Derived.Test.YtjhopgmionpkoaaIm6
import Derived.Test.YtjhopgmionpkoaaIm3
import Derived.Test.YtjhopgmionpkoaaMacZ
import Derived.Test.YtjhopgmionpkoaaMacS
namespace Go.Proofs.Ytjhopgmionpkoaa
set_option maxRecDepth 20000
open Go.RowKit Mem

def imSign (k : Ia.Bs) (m : Im) : Ia.Bs × Int := if (imEnc m).2 ≠ 0 then ([], (imEnc m).2) else ((imEnc m).1 ++ tagOf k (imEnc m).1, 0)
def imOpen (k b : Ia.Bs) : Im × Int :=
  if 2048 < b.length then (Im.zero, 3) else if b.length < 32 then (Im.zero, 2) else
  if (b.drop (b.length - 32) == tagOf k (b.take (b.length - 32))) = true then imParse (b.take (b.length - 32)) else (Im.zero, 6)
theorem imEnc_len (m : Im) : (imEnc m).1.length ≤ 2016 := by
  unfold imEnc
  by_cases h : chk m ≠ 0
  · rw [if_pos h]; exact Nat.zero_le _
  · rw [if_neg h]
    by_cases h2 : 2016 < (laidB m).length
    · rw [if_pos h2]; exact Nat.zero_le _
    · rw [if_neg h2]; dsimp only; omega
theorem own_cap {w : World} {B size n : Nat} {e : TypeId} {A : Option Addr} {n' c : Nat} {xs : List Value} (h : w.ownsRow B e size (.slice A n' c) n xs) (hn : 0 < n) : n ≤ c := by
  rcases h.2 with ⟨_, h0⟩ | ⟨g, cap, cur, e1, _, _, h1, _⟩
  · omega
  · injection e1 with _ _ e3
    omega
set_option maxRecDepth 100000 in
set_option maxHeartbeats 8000000 in
theorem imsign (m : Im) (A1 A2 A3 : Option Addr) (c1 c2 c3 : Nat) (k : Ia.Bs) (A : Option Addr) (c : Nat) (w : World) (hA : ImAt w m A1 A2 A3 c1 c2 c3) (hl : ImLen m) (ho : ImOk m) (hK : BSrc w A c k) (hkc : k.length ≤ c) (hkm : k.length ≤ 16384) (hcm : c ≤ 140737488351232) :
    Calls Try.prog 24 #[imAgg m A1 A2 A3 c1 c2 c3, .slice A k.length c] w (EncPost (imSign k m).1 (imSign k m).2 w) := by
  have HA := Lib.hid hA
  have HK := Lib.hid hK
  have hE := fun W h => imencode m A1 A2 A3 c1 c2 c3 W h hl ho
  have hxl := imEnc_len m
  obtain ⟨y, hy⟩ : ∃ y, y = imSign k m := ⟨_, rfl⟩
  rw [← hy]
  unfold imSign at hy
  generalize imEnc m = r at *
  obtain ⟨x, er⟩ := r
  dsimp only at *
  unfold imAgg at *
  have HE := Lib.hid hE
  have HY := Lib.hid hy
  clear hA hK hE hy hl ho
  go_enter Try.func24, Try.ntmps24
  go_upto_region 1 with fail
  obtain ⟨W0, hW0⟩ : ∃ W, W = w.alloc (.cells #[.int .u32 m.ver, .int .u32 m.frm, .int .i64 m.el, .int .i64 m.fr.sl, .int .i64 m.fr.ol, .int .i64 m.fr.nw, .int .i64 m.fr.is, .int .i64 m.fr.os, .slice A1 m.first.length c1, .slice A2 m.step.length c2, .slice A3 m.move.length c3, .int .i64 m.sf, .int .i64 m.mf] 28) := ⟨_, rfl⟩
  rw [← hW0]
  have HR0 : Hid (W0.heap[w.heap.size]? = some (.cells #[.int .u32 m.ver, .int .u32 m.frm, .int .i64 m.el, .int .i64 m.fr.sl, .int .i64 m.fr.ol, .int .i64 m.fr.nw, .int .i64 m.fr.is, .int .i64 m.fr.os, .slice A1 m.first.length c1, .slice A2 m.step.length c2, .slice A3 m.move.length c3, .int .i64 m.sf, .int .i64 m.mf] 28 (0, 0))) := by unfold RowKit.Hid; rw [hW0]; exact heap_alloc_new _ _
  have HB0 : Hid (Below w.heap.size w W0) := by unfold RowKit.Hid; rw [hW0]; exact (Below.refl _ _).alloc (Nat.le_refl _) _
  clear hW0
  go_wp2_with (refine wpList_load_row rfl 28 (.tmp 2) rfl w.heap.size rfl _ _ _ _ HR0.out Try.underlying28 rfl infoImS ?_)
  refine (HE.out _ (HA.out.below HB0.out (Nat.le_refl _))).mono ?_
  rintro e w1 ⟨Ax, cx, rfl, hx, hxc, hb1⟩
  have HX := Lib.hid hx
  have HB1 := Lib.hid (HB0.out.trans (hb1.mono HB0.out.size))
  clear hx hb1 HR0 HB0 HE
  by_cases her : er = 0
  · subst her
    have HY2 : Hid (y = (x ++ tagOf k x, 0)) := by unfold RowKit.Hid; rw [HY.out, if_neg (fun h => h rfl)]
    go_wp2_with fail
    refine (macseal k x A Ax c cx _ (HK.out.below HB1.out (Nat.le_refl _)) hkc (by omega) (by omega) HX.out (by omega)).mono ?_
    rintro e w2 ⟨v, rfl, hown, hb2⟩
    obtain ⟨As, cs, rfl⟩ := own_slice hown
    have HO := Lib.hid hown
    have HB2 := Lib.hid (HB1.out.trans (hb2.mono HB1.out.size))
    clear hown hb2
    go_wp2_with fail
    go_ret2
    rw [HY2.out]
    dsimp only
    have hlen : (x ++ tagOf k x).length = x.length + 32 := by rw [List.length_append, tagOf_len]
    exact ⟨As, cs, by rw [hlen]; rfl, by show Src _ _ (x ++ tagOf k x).length _ _ _; rw [hlen]; exact Src.of_own HO.out, by rw [hlen]; exact own_cap HO.out (by omega), HB2.out⟩
  · have HY2 : Hid (y = ([], er)) := by unfold RowKit.Hid; rw [HY.out, if_pos her]
    have be : (er == 0) = false := by simpa using her
    have be2 : (er != 0) = true := by simpa using her
    go_wp2_with fail
    go_ret2
    rw [HY2.out]
    exact ⟨none, 0, rfl, nil_src _, Nat.le_refl _, HB1.out⟩
set_option maxRecDepth 100000 in
set_option maxHeartbeats 8000000 in
theorem imopen (b k : Ia.Bs) (A : Option Addr) (c : Nat) (A' : Option Addr) (c' : Nat) (w : World) (hB : BSrc w A c b) (hbc : b.length ≤ c) (hK : BSrc w A' c' k) (hkc : k.length ≤ c') (hkm : k.length ≤ 16384) (hcm : c' ≤ 140737488351232) :
    Calls Try.prog 21 #[.slice A b.length c, .slice A' k.length c'] w (ParsePost (imOpen k b).1 (imOpen k b).2 w) := by
  have HB := Lib.hid hB
  have HK := Lib.hid hK
  have HB0 : Hid (∀ X, Below w.heap.size w (w.alloc X)) := fun X => (Below.refl _ _).alloc (Nat.le_refl _) X
  have HZ0 : Hid (∀ X, (w.alloc X).heap[w.heap.size]? = some X) := fun X => heap_alloc_new _ _
  obtain ⟨pm, hpm⟩ : ∃ p, p = imOpen k b := ⟨_, rfl⟩
  rw [← hpm]
  unfold imOpen at hpm
  have HPM := Lib.hid hpm
  clear hB hK hpm
  by_cases hbig : 2048 < b.length
  · have HP : Hid (pm = (Im.zero, 3)) := by unfold RowKit.Hid; rw [HPM.out, if_pos hbig]
    go_enter Try.func21, Try.ntmps21
    have HZ := Lib.hid (HZ0.out (.cells #[.int .u32 0, .int .u32 0, .int .i64 0, .int .i64 0, .int .i64 0, .int .i64 0, .int .i64 0, .int .i64 0, .slice none 0 0, .slice none 0 0, .slice none 0 0, .int .i64 0, .int .i64 0] 28))
    go_wp2_with (refine wpList_store_row rfl 28 (.tmp 4) (.tmp 11) rfl w.heap.size _ rfl rfl _ _ HZ.out infoImS rfl zrow_one ?_)
    refine ret_im (v := .int .i64 3) 4 5 ?r1 ?r2 ?r3 ?r4 (setRow_heap _ _ _ #[.int .u32 0, .int .u32 0, .int .i64 0, .int .i64 0, .int .i64 0, .int .i64 0, .int .i64 0, .int .i64 0, .slice none 0 0, .slice none 0 0, .slice none 0 0, .int .i64 0, .int .i64 0] _ _ HZ.out) ?r5 ?_
    case r1 => rfl
    case r2 => rfl
    case r3 => rfl
    case r4 => rfl
    case r5 => rfl
    rw [HP.out]
    exact ⟨none, none, none, 0, 0, 0, rfl, imNew_zero _ _, below_setRow_ (HB0.out _) (Nat.le_refl _)⟩
  · go_enter Try.func21, Try.ntmps21
    go_wp2_with fail
    obtain ⟨W0, hW0⟩ : ∃ W, W = w.alloc (.cells #[.int .u32 0, .int .u32 0, .int .i64 0, .int .i64 0, .int .i64 0, .int .i64 0, .int .i64 0, .int .i64 0, .slice none 0 0, .slice none 0 0, .slice none 0 0, .int .i64 0, .int .i64 0] 28) := ⟨_, rfl⟩
    rw [← hW0]
    have HZ1 : Hid (W0.heap[w.heap.size]? = some (.cells #[.int .u32 0, .int .u32 0, .int .i64 0, .int .i64 0, .int .i64 0, .int .i64 0, .int .i64 0, .int .i64 0, .slice none 0 0, .slice none 0 0, .slice none 0 0, .int .i64 0, .int .i64 0] 28 (0, 0))) := by unfold RowKit.Hid; rw [hW0]; exact HZ0.out _
    have HB1 : Hid (Below w.heap.size w W0) := by unfold RowKit.Hid; rw [hW0]; exact HB0.out _
    have hz0 : w.heap.size < W0.heap.size := by rw [hW0]; simp
    clear hW0
    by_cases hsm : b.length < 32
    · have HP : Hid (pm = (Im.zero, 2)) := by unfold RowKit.Hid; rw [HPM.out, if_neg hbig, if_pos hsm]
      refine (macopen_short _ b.length c A _ hsm).mono ?_
      rintro e w1 ⟨rfl, rfl⟩
      go_wp2_with (refine wpList_store_row rfl 28 (.tmp 4) (.tmp 20) rfl w.heap.size _ rfl rfl _ _ HZ1.out infoImS rfl zrow_one ?_)
      refine ret_im (v := .int .i64 2) 4 5 ?r1 ?r2 ?r3 ?r4 (setRow_heap _ _ _ #[.int .u32 0, .int .u32 0, .int .i64 0, .int .i64 0, .int .i64 0, .int .i64 0, .int .i64 0, .int .i64 0, .slice none 0 0, .slice none 0 0, .slice none 0 0, .int .i64 0, .int .i64 0] _ _ HZ1.out) ?r5 ?_
      case r1 => rfl
      case r2 => rfl
      case r3 => rfl
      case r4 => rfl
      case r5 => rfl
      rw [HP.out]
      exact ⟨none, none, none, 0, 0, 0, rfl, imNew_zero _ _, below_setRow_ HB1.out (Nat.le_refl _)⟩
    · obtain ⟨n, hn⟩ : ∃ n, b.length = n + 32 := ⟨b.length - 32, by omega⟩
      have e32 : b.length - 32 = n := by omega
      have HOP := Lib.hid (macopen k b A' A c' c W0 (HK.out.below HB1.out (Nat.le_refl _)) hkc (by omega) (by omega)  (HB.out.below HB1.out (Nat.le_refl _)) (by omega) hbc n hn)
      have HPM2 := HPM.out
      rw [if_neg hbig, if_neg hsm, e32] at HPM2
      have hxl : (b.take n).length = n := by rw [List.length_take]; omega
      generalize b.take n = x at *
      generalize (b.drop n == tagOf k x) = q at *
      have HPQ := Lib.hid HPM2
      clear HPM2 e32
      refine HOP.out.mono ?_
      rintro e w1 ⟨hop, hb1⟩
      have HZ2 := Lib.hid ((hb1.block _ hz0).trans HZ1.out)
      have HB2 := Lib.hid (HB1.out.trans (hb1.mono HB1.out.size))
      have hz1 := hb1.size
      clear hb1 HZ1 HOP
      cases q with
      | false =>
        have HP : Hid (pm = (Im.zero, 6)) := by unfold RowKit.Hid; rw [HPQ.out, if_neg (by decide)]
        obtain rfl := hop
        go_wp2_with (refine wpList_store_row rfl 28 (.tmp 4) (.tmp 20) rfl w.heap.size _ rfl rfl _ _ HZ2.out infoImS rfl zrow_one ?_)
        refine ret_im (v := .int .i64 6) 4 5 ?r1 ?r2 ?r3 ?r4 (setRow_heap _ _ _ #[.int .u32 0, .int .u32 0, .int .i64 0, .int .i64 0, .int .i64 0, .int .i64 0, .int .i64 0, .int .i64 0, .slice none 0 0, .slice none 0 0, .slice none 0 0, .int .i64 0, .int .i64 0] _ _ HZ2.out) ?r5 ?_
        case r1 => rfl
        case r2 => rfl
        case r3 => rfl
        case r4 => rfl
        case r5 => rfl
        rw [HP.out]
        exact ⟨none, none, none, 0, 0, 0, rfl, imNew_zero _ _, below_setRow_ HB2.out (Nat.le_refl _)⟩
      | true =>
        have HP : Hid (pm = imParse x) := by unfold RowKit.Hid; rw [HPQ.out, if_pos rfl]
        obtain ⟨v, rfl, hown⟩ := hop
        obtain ⟨Ay, cy, rfl⟩ := own_slice hown
        have hcy : n ≤ cy := by
          by_cases h0 : n = 0
          · omega
          · exact own_cap hown (by omega)
        have hsy : BSrc w1 Ay cy x := by show Src _ _ x.length _ _ _; rw [hxl]; exact Src.of_own hown
        have hpp := imparse x Ay cy w1 hsy.at_ (by omega) (by omega)
        rw [hxl, ← HP.out] at hpp
        have HPP := Lib.hid hpp
        clear hpp hown hsy
        go_wp2_with fail
        refine HPP.out.mono ?_
        rintro e w2 ⟨A1, A2, A3, c1, c2, c3, rfl, hnew, hb2⟩
        have HN := Lib.hid hnew
        have HZ3 := Lib.hid ((hb2.block _ (by omega)).trans HZ2.out)
        have HB3 := Lib.hid (HB2.out.trans (hb2.mono HB2.out.size))
        clear hnew hb2 HZ2 HB2 HPP
        obtain ⟨m, er⟩ := pm
        dsimp only at *
        unfold imAgg
        go_wp2_with (refine wpList_store_row rfl 28 (.tmp 4) (.tmp 24) rfl w.heap.size _ rfl rfl _ _ HZ3.out infoImS rfl (imrow_one m A1 A2 A3 c1 c2 c3) ?_)
        refine ret_im (v := .int .i64 er) 4 5 ?r1 ?r2 ?r3 ?r4 (setRow_heap _ _ _ #[.int .u32 m.ver, .int .u32 m.frm, .int .i64 m.el, .int .i64 m.fr.sl, .int .i64 m.fr.ol, .int .i64 m.fr.nw, .int .i64 m.fr.is, .int .i64 m.fr.os, .slice A1 m.first.length c1, .slice A2 m.step.length c2, .slice A3 m.move.length c3, .int .i64 m.sf, .int .i64 m.mf] _ _ HZ3.out) ?r5 ?_
        case r1 => rfl
        case r2 => rfl
        case r3 => rfl
        case r4 => rfl
        case r5 => rfl
        exact ⟨A1, A2, A3, c1, c2, c3, rfl, (HN.out.setRow (by omega) _).base (by omega), below_setRow_ HB3.out (Nat.le_refl _)⟩
end Go.Proofs.Ytjhopgmionpkoaa
