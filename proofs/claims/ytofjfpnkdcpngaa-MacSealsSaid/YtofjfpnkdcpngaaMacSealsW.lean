/-
  The walk of the law MacSeals: sealing, opening and right tags are as the document says, in new memory.
-/
import Derived.Test.YtofjfpnkdcpngaaMacSealsR
import Derived.Test.YtofjfpnkdcpngaaMacS
namespace Go.Proofs.Ytofjfpnkdcpngaa
open Go.RowKit Mem

/-- what comes of mac.Open, in short: a slice, nil or of its own, and an error -/
theorem open_any (k b : List UInt8) (A A' : Option Addr) (c c' : Nat) (w : World) (hA : BSrc w A c k) (hc : k.length ≤ c) (hm : k.length ≤ 140737488351232) (hm2 : c ≤ 9223372036854775807) (hA' : BSrc w A' c' b) (hb : b.length ≤ 140737488351232 - 200) (hbc : b.length ≤ c') :
    ∃ (x : List UInt8) (e0 : Int), x.length ≤ b.length ∧ Calls Try.prog 16 #[.slice A k.length c, .slice A' b.length c'] w (fun e w' => ∃ v, e = .returned (.tuple #[v, .int .i64 e0]) ∧ w'.ownsRow w.heap.size 5 1 v x.length (bcells x) ∧ Below w.heap.size w w') ∧
      ∀ (W : World) (A1 A1' : Option Addr) (c1 c1' : Nat), BSrc W A1 c1 k → k.length ≤ 140737488351232 - 200 → BSrc W A1' c1' b → b.length ≤ c1' → Calls Try.prog 20 #[.slice A1 k.length c1, .slice A1' b.length c1'] W (fun e w' => ∃ v, e = .returned (.tuple #[v, .int .i64 e0]) ∧ w'.ownsRow W.heap.size 5 1 v x.length (bcells x) ∧ Below W.heap.size W w') := by
  by_cases h32 : b.length < 32
  · refine ⟨[], 2, Nat.zero_le _, (macopen_short _ b.length c' A' w h32).mono ?_, fun W A1 A1' c1 c1' _ _ _ _ => (refopen_short _ b.length c1' A1' W h32).mono ?_⟩
    · rintro e w' ⟨rfl, rfl⟩
      exact ⟨_, rfl, World.ownsRow_nil _ _ _ _, Below.refl _ _⟩
    · rintro e w' ⟨rfl, rfl⟩
      exact ⟨_, rfl, World.ownsRow_nil _ _ _ _, Below.refl _ _⟩
  · obtain ⟨n, hn⟩ : ∃ n, b.length = n + 32 := ⟨b.length - 32, by omega⟩
    have hl : (b.take n).length = n := by rw [List.length_take]; omega
    have hop := macopen k b A A' c c' w hA hc hm hm2 hA' hb hbc n hn
    cases hq : (b.drop n == tagOf k (b.take n)) with
    | true =>
      rw [hq] at hop
      refine ⟨b.take n, 0, by omega, hop.mono ?_, fun W A1 A1' c1 c1' h1 h2 h3 h4 => (refopen k b A1 A1' c1 c1' W h1 h2 h3 hb h4 n hn).mono ?_⟩
      · rintro e w' ⟨⟨v, he, ho⟩, hb⟩
        exact ⟨v, he, by rw [hl]; exact ho, hb⟩
      · rw [hq]
        rintro e w' ⟨⟨v, he, ho⟩, hb⟩
        exact ⟨v, he, by rw [hl]; exact ho, hb⟩
    | false =>
      rw [hq] at hop
      refine ⟨[], 6, Nat.zero_le _, hop.mono ?_, fun W A1 A1' c1 c1' h1 h2 h3 h4 => (refopen k b A1 A1' c1 c1' W h1 h2 h3 hb h4 n hn).mono ?_⟩
      · rintro e w' ⟨he, hb⟩
        exact ⟨_, he, World.ownsRow_nil _ _ _ _, hb⟩
      · rw [hq]
        rintro e w' ⟨he, hb⟩
        exact ⟨_, he, World.ownsRow_nil _ _ _ _, hb⟩
theorem own_conv {w : World} {base : Nat} {v : Value} {x : List UInt8} (h : w.ownsRow base 5 1 v x.length (bcells x)) : ∀ w', Below w.heap.size w w' → (convert 22 9 v).run Try.prog w' = .ok (.string ⟨x.toArray⟩) w' := fun w' hb => by
  obtain ⟨A, c, rfl⟩ := own_slice h
  exact conv_bytes w' A c x ((BytesAt.of_own h).below hb (Nat.le_refl _))
theorem own_apart {w : World} {base : Nat} {v : Value} {e : TypeId} {n : Nat} {xs : List Value} {u : Value} (h : w.ownsRow base e 1 v n xs) (hu : ∀ g, u.ownBlock = some g → g < base) : v.ownBlock = none ∨ v.ownBlock ≠ u.ownBlock := by
  rcases hq : v.ownBlock with _ | g
  · exact .inl rfl
  · refine .inr fun e => ?_
    have h1 := (h.lt g hq).1
    have h2 := hu g e.symm
    omega
theorem own_apart2 {w : World} {base : Nat} {v : Value} {e : TypeId} {n : Nat} {xs : List Value} {u : Value} (h : w.ownsRow base e 1 v n xs) (hu : ∀ g, u.ownBlock = some g → g < base) : u.ownBlock = none ∨ u.ownBlock ≠ v.ownBlock := by
  rcases hq : u.ownBlock with _ | g
  · exact .inl rfl
  · refine .inr fun e => ?_
    have h1 := (h.lt g e.symm).1
    have h2 := hu g hq
    omega
set_option maxRecDepth 100000 in
set_option maxHeartbeats 8000000 in
theorem macSeals_walk (w : World) (A : Option Addr) (c : Nat) (k : List UInt8) (hA : BArg w A c k) (A' : Option Addr) (c' : Nat) (b : List UInt8) (hA' : BArg w A' c' b) (A'' : Option Addr) (c'' : Nat) (tg : List UInt8) (hA'' : BArg w A'' c'' tg) :
    Calls Try.prog 7 #[.slice A k.length c, .slice A' b.length c', .slice A'' tg.length c''] w fun e w' => e = .returned (.bool true) ∧ Below w.heap.size w w' := by
  obtain ⟨hA1, hA2, hA3⟩ := hA
  obtain ⟨hM1, hM2, hM3⟩ := hA'
  obtain ⟨hT1, hT2, hT3⟩ := hA''
  by_cases h1 : k.length ≤ 16384
  · by_cases h2 : b.length ≤ 16384
    · by_cases h3 : tg.length ≤ 16384
      · have HA := Lib.hid hA1
        have HM := Lib.hid hM1
        have HT := Lib.hid hT1
        have HSE := Lib.hid (fun (A1 : Option Addr) (c1 : Nat) (W : World) (h : BSrc W A c k) (h' : BSrc W A1 c1 b) => macseal k b A A1 c c1 W h hA2 (by omega) (by omega) h' (by omega))
        have HRS := Lib.hid (fun (W : World) (h : BSrc W A c k) (h' : BSrc W A' c' b) => refseal k b A A' c c' W h (by omega) h' (by omega))
        have HOP := Lib.hid (fun (A1 : Option Addr) (c1 : Nat) (W : World) (h : BSrc W A c k) (h' : BSrc W A1 c1 b) (hc1 : b.length ≤ c1) => open_any k b A A1 c c1 W h hA2 (by omega) (by omega) h' (by omega) hc1)
        have HR1 := Lib.hid (fun (W : World) (h : BSrc W A c k) (h' : BSrc W A' c' b) (h'' : BSrc W A'' c'' tg) => macright k b tg A A' A'' c c' c'' W h hA2 (by omega) (by omega) h' (by omega) h'' (by omega))
        have HR2 := Lib.hid (fun (W : World) (h : BSrc W A c k) (h' : BSrc W A' c' b) (h'' : BSrc W A'' c'' tg) => refright k b tg A A' A'' c c' c'' W h (by omega) h' (by omega) h'')
        have HFL : Hid ((b ++ tagOf k b).length = b.length + 32) := by unfold RowKit.Hid; rw [List.length_append, tagOf_len]
        generalize b ++ tagOf k b = fin at *
        generalize (tg == tagOf k b) = q at *
        clear hA1 hM1 hT1
        go_enter Try.func7, Try.ntmps7
        go_wp2_with fail
        refine (wlent b A' c' w HM.out (by omega)).mono ?_
        rintro e w1 ⟨A1, c1, rfl, hL1, hb1⟩
        have HK1 := Lib.hid hL1
        have HB1 := Lib.hid hb1
        clear hL1 hb1
        go_wp2_with fail
        refine (HSE.out A1 c1 _ (HA.out.below HB1.out (Nat.le_refl _)) (lent_src HK1.out).1).mono ?_
        rintro e w2 ⟨vx, rfl, hox, hb2⟩
        have HB2 := Lib.hid (HB1.out.trans (hb2.mono HB1.out.size))
        have HK2 := Lib.hid (LentAt.below HK1.out hb2 (Nat.le_refl _))
        have HZ12 := Lib.hid hb2.size
        have HX2 := Lib.hid hox
        clear hb2 hox
        go_wp2_with fail
        obtain ⟨y, e0, hyl, hop, hro⟩ := HOP.out A1 c1 w2 (HA.out.below HB2.out (Nat.le_refl _)) (lent_src HK2.out).1 (lent_src HK2.out).2.1
        have HRO := Lib.hid hro
        have HYL := Lib.hid hyl
        clear hro hyl
        refine hop.mono ?_
        clear hop
        rintro e w3 ⟨vy, rfl, hoy, hb3⟩
        have HB3 := Lib.hid (HB2.out.trans (hb3.mono HB2.out.size))
        have HK3 := Lib.hid (LentAt.below HK2.out hb3 (Nat.le_refl _))
        have HX3 := Lib.hid (own_below HX2.out hb3)
        have HY3 := Lib.hid hoy
        have HZ23 := Lib.hid hb3.size
        clear hb3 hoy
        go_wp2_with fail
        refine (HRO.out _ A A' c c' (HA.out.below HB3.out (Nat.le_refl _)) (by omega) (HM.out.below HB3.out (Nat.le_refl _)) hM2).mono ?_
        rintro e w4 ⟨vz, rfl, hoz, hb4⟩
        have HB4 := Lib.hid (HB3.out.trans (hb4.mono HB3.out.size))
        have HK4 := Lib.hid (LentAt.below HK3.out hb4 (Nat.le_refl _))
        have HX4 := Lib.hid (own_below HX3.out hb4)
        have HY4 := Lib.hid (own_below HY3.out hb4)
        have HV4 := Lib.hid hoz
        have HZ24 : Hid (w2.heap.size ≤ w4.heap.size) := by have h1 := HZ23.out; have h2 := hb4.size; unfold RowKit.Hid; omega
        clear hb4 hoz
        obtain ⟨A8, c8, rfl⟩ := own_slice HX4.out
        go_upto_region 7 with fail
        refine wp_region_any (by kernel_rfl) ?_
        refine wpAny_ops (ops' := mslOps) (by kernel_rfl) ?_
        refine mslRegion _ w4 ?hs k b tg fin A A' A'' A8 c c' c'' c8 (b.length + 32) HFL.out vy vz ⟨y.toArray⟩ e0 q (BytesAt.of_own HX4.out) (own_conv HY4.out) (own_conv HV4.out) (fun W h => (HRS.out W (HA.out.below (HB4.out.trans (h.mono HB4.out.size)) (Nat.le_refl _)) (HM.out.below (HB4.out.trans (h.mono HB4.out.size)) (Nat.le_refl _))).mono ?hse) (fun W h => HR1.out W (HA.out.below (HB4.out.trans (h.mono HB4.out.size)) (Nat.le_refl _)) (HM.out.below (HB4.out.trans (h.mono HB4.out.size)) (Nat.le_refl _)) (HT.out.below (HB4.out.trans (h.mono HB4.out.size)) (Nat.le_refl _))) (fun W h => HR2.out W (HA.out.below (HB4.out.trans (h.mono HB4.out.size)) (Nat.le_refl _)) (HM.out.below (HB4.out.trans (h.mono HB4.out.size)) (Nat.le_refl _)) (HT.out.below (HB4.out.trans (h.mono HB4.out.size)) (Nat.le_refl _))) rfl rfl rfl rfl rfl rfl rfl rfl ?_
        case hs => simp [Act.put]
        case hse =>
          rintro e w' ⟨v, rfl, hov, hbv⟩
          obtain ⟨A9, c9, rfl⟩ := own_slice hov
          exact ⟨A9, c9, rfl, BytesAt.of_own hov, hbv⟩
        intro vs w5 hb5 _
        generalize vs 49 = v49
        simp only [mslSlots, List.foldl_cons, List.foldl_nil]
        simp only [mslVal]
        simp only [Act.put, List.setIfInBounds_toArray, List.set_cons_zero, List.set_cons_succ]
        have HB5 := Lib.hid (HB4.out.trans (hb5.mono HB4.out.size))
        have HK5 := Lib.hid (LentAt.below HK4.out hb5 (Nat.le_refl _))
        have HX5 := Lib.hid (own_below HX4.out hb5)
        have HY5 := Lib.hid (own_below HY4.out hb5)
        have HZ5 : Hid (w2.heap.size ≤ w5.heap.size) := by have h1 := HZ24.out; have h2 := hb5.size; unfold RowKit.Hid; omega
        clear hb5
        go_wp2_with fail
        refine (wspoil fin _ w1.heap.size w5 (by rw [HFL.out]; exact HX5.out) (by have h1 := HZ12.out; have h2 := HZ5.out; omega) (by rw [HFL.out]; omega)).mono ?_
        rintro e w6 ⟨⟨r6, rfl⟩, hg6⟩
        have HB6 := Lib.hid (HB5.out.trans (below_of_grown hg6 HB5.out.size (fun g hg => by have h1 := (HX5.out.lt g hg).1; have h2 := HB1.out.size; omega)))
        have HK6 : Hid (LentAt w6 w.heap.size A1 c1 b) := World.ownsRow.kept HK5.out hg6 (own_apart2 HX5.out (fun g hg => (HK1.out.lt g hg).2))
        have HY6 := Lib.hid (HY5.out.kept hg6 (own_apart HY5.out (fun g hg => (HX2.out.lt g hg).2)))
        have HZ6 : Hid (w2.heap.size ≤ w6.heap.size) := by have h1 := HZ5.out; have h2 := hg6.size; unfold RowKit.Hid; omega
        clear hg6
        go_wp2_with fail
        refine (wspoil y _ w2.heap.size w6 HY6.out HZ6.out (by have := HYL.out; omega)).mono ?_
        rintro e w7 ⟨⟨r7, rfl⟩, hg7⟩
        have HB7 := Lib.hid (HB6.out.trans (below_of_grown hg7 HB6.out.size (fun g hg => by have h1 := (HY6.out.lt g hg).1; have h2 := HB2.out.size; omega)))
        have HK7 : Hid (LentAt w7 w.heap.size A1 c1 b) := World.ownsRow.kept HK6.out hg7 (own_apart2 HY6.out (fun g hg => by have h1 := (HK1.out.lt g hg).2; have h2 := HZ12.out; omega))
        clear hg7
        go_wp2_with fail
        refine (wkept b A1 A' c1 c' _ _ HK7.out (BSrc.at_ (HM.out.below HB7.out (Nat.le_refl _)))).mono ?_
        rintro e w' ⟨rfl, rfl⟩
        go_wp2_with fail
        refine (known_any _).mono ?_
        rintro e w8 ⟨rfl, hb8⟩
        have HB8 := Lib.hid (HB7.out.trans (hb8.mono HB7.out.size))
        clear hb8
        go_wp2_with fail
        go_ret
        exact ⟨rfl, HB8.out⟩
      · go_enter Try.func7, Try.ntmps7
        go_wp2_with fail
        refine (known_any _).mono ?_
        rintro e w8 ⟨rfl, hb8⟩
        go_wp2_with fail
        go_ret
        exact ⟨rfl, hb8⟩
    · go_enter Try.func7, Try.ntmps7
      go_wp2_with fail
      refine (known_any _).mono ?_
      rintro e w8 ⟨rfl, hb8⟩
      go_wp2_with fail
      go_ret
      exact ⟨rfl, hb8⟩
  · go_enter Try.func7, Try.ntmps7
    go_wp2_with fail
    refine (known_any _).mono ?_
    rintro e w8 ⟨rfl, hb8⟩
    go_wp2_with fail
    go_ret
    exact ⟨rfl, hb8⟩
end Go.Proofs.Ytofjfpnkdcpngaa
