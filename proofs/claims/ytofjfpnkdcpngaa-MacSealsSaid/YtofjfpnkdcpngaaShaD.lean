/-
  A block's numbers, by the reference.
-/
import Derived.Test.YtofjfpnkdcpngaaShaC
import Derived.Test.YtofjfpnkdcpngaaKeep
namespace Go.Proofs.Ytofjfpnkdcpngaa
open Go.RowKit Mem

theorem infoWord : (Try.prog.info? 42).map (fun i => (i.zero, i.size, i.bytes)) = some (some (.int .u32 0), 1, 4) := by kernel_rfl
theorem refturnedI (x : UInt32) (n : Int) (h0 : 0 ≤ n) (h1 : n ≤ 32) (w : World) :
    Calls Try.prog 38 #[.int .u32 (x.toNat : Int), .int .i64 n] w fun e w' => e = .returned (.int .u32 ((Sh.ror n x).toNat : Int)) ∧ w = w' := by
  obtain ⟨m, rfl⟩ := Int.eq_ofNat_of_zero_le h0
  exact refturned x m (by omega) w
theorem refshifted3 (x : UInt32) (w : World) :
    Calls Try.prog 34 #[.int .u32 (x.toNat : Int), .int .i64 3] w fun e w' => e = .returned (.int .u32 ((UInt32.ofNat (x.toNat / 8)).toNat : Int)) ∧ w = w' := refshifted x 3 (by decide) w
theorem refshifted10 (x : UInt32) (w : World) :
    Calls Try.prog 34 #[.int .u32 (x.toNat : Int), .int .i64 10] w fun e w' => e = .returned (.int .u32 ((UInt32.ofNat (x.toNat / 1024)).toNat : Int)) ∧ w = w' := refshifted x 10 (by decide) w
def part (b : List UInt8) (i : Nat) : Nat → Nat
  | 0 => 0
  | j + 1 => 256 * part b i j + (b.getD (4 * i + j) 0).toNat
theorem part_lt (b : List UInt8) (i : Nat) : ∀ j, part b i j < 256 ^ j
  | 0 => by simp [part]
  | j + 1 => by
    have := part_lt b i j
    have := (b.getD (4 * i + j) 0).toNat_lt
    simp only [part, Nat.pow_succ]
    omega
theorem part_four (b : List UInt8) (i : Nat) : part b i 4 = (Sh.word (b.getD (4 * i) 0) (b.getD (4 * i + 1) 0) (b.getD (4 * i + 2) 0) (b.getD (4 * i + 3) 0)).toNat := by
  rw [word_toNat]
  simp only [part, Nat.add_zero]
  omega
theorem own_at {w : World} {base g k c n : Nat} {e : TypeId} {l : List UInt32} (h : w.ownsRow base e 1 (.slice (some ⟨g, 0, none⟩) n c) n (wcells l)) (hk : k < l.length) : w.cell? ⟨g, k, none⟩ = some (.int .u32 (((l[k]'hk).toNat : Nat) : Int)) := by
  have := h.cells (g := g) rfl k _ (wcells_at l k hk)
  rwa [add_at] at this
set_option maxRecDepth 100000 in
set_option maxHeartbeats 4000000 in
theorem refwords (b : List UInt8) (A : Option Addr) (c : Nat) (w : World) (hA : BytesAt w A b) (hl : b.length = 64) :
    Calls Try.prog 36 #[.slice A 64 c] w fun e w' => ∃ g cap, e = .returned (.slice (some ⟨g, 0, none⟩) 64 cap) ∧ w'.ownsRow w.heap.size 42 1 (.slice (some ⟨g, 0, none⟩) 64 cap) 64 (wcells (Sh.sched b 64)) ∧ Below w.heap.size w w' := by
  have HA := Lib.hid hA
  have HL := Lib.hid hl
  clear hA hl
  obtain ⟨i0, hi, hi0, hi1, hi2⟩ := info_parts infoWord
  go_enter Try.func36, Try.ntmps36
  go_wp2_with fail
  go_loopw [3, 4] (fun v i wr => ∃ k : Nat, k ≤ 16 ∧ i = .int .i64 k ∧ Hid (wr.ownsRow w.heap.size 42 1 v k (wcells (Sh.sched b k))) ∧ Hid (Below w.heap.size w wr)) (fun _ i _ => 16 - (intOf i).toNat)
  case atStart => exact ⟨0, by omega, rfl, World.ownsRow_nil _ _ _ _, Below.refl _ _⟩
  case round =>
    obtain ⟨k, hk, rfl, hO, hB⟩ := hrel
    obtain ⟨wo, rfl⟩ : ∃ wo : World, wo = wr := ⟨_, rfl⟩
    by_cases hlt : k < 16
    · go_wp2_with fail
      go_loop [5, 6] (fun n j => ∃ m : Nat, m ≤ 4 ∧ j = .int .i64 m ∧ n = .int .u32 ((part b k m : Nat) : Int)) (fun _ j => 4 - (intOf j).toNat)
      case atStart => exact ⟨0, by omega, rfl, rfl⟩
      case round =>
        obtain ⟨m, hm, rfl, rfl⟩ := hrel
        by_cases hm4 : m < 4
        · have hin : 4 * k + m < b.length := by have := HL.out; omega
          obtain ⟨bb, off, rfl, c0⟩ := HA.out.below hB.out (Nat.le_refl _) (4 * k + m) hin
          have hpl := part_lt b k m
          have hpp : (256 : Nat) ^ m ≤ 256 ^ 3 := Nat.pow_le_pow_right (by omega) (by omega)
          have HP : Hid (part b k (m + 1) = 256 * part b k m + (b[4 * k + m]'hin).toNat) := by
            unfold RowKit.Hid
            rw [part, List.getD_eq_getElem?_getD, List.getElem?_eq_getElem hin]; rfl
          have hcb : ((b[4 * k + m]'hin).toNat : Int) ≤ 255 := by have := (b[4 * k + m]'hin).toNat_lt; omega
          have hcb0 : (0 : Int) ≤ ((b[4 * k + m]'hin).toNat : Int) := by omega
          generalize (b[4 * k + m]'hin).toNat = cc at *
          generalize part b k m = pp at *
          have hp1 : (pp : Int) ≤ 16777215 := by omega
          have hp0 : (0 : Int) ≤ pp := by omega
          have r0 : (0 : Int) ≤ 4 * (k : Int) + m := by omega
          have r1 : 4 * (k : Int) + m < 64 := by omega
          have t0 : (4 * (k : Int) + m).toNat = 4 * k + m := by omega
          clear hpl hpp
          go_wp2_with fail
          go_round
          case rel => exact ⟨m + 1, by omega, by go_num, by rw [HP.out]; go_num⟩
          case measure => simp [intOf]; omega
        · obtain rfl : m = 4 := by omega
          have HN : Hid (Sh.nextW b (Sh.sched b k) = Sh.word (b.getD (4 * k) 0) (b.getD (4 * k + 1) 0) (b.getD (4 * k + 2) 0) (b.getD (4 * k + 3) 0)) := by
            unfold RowKit.Hid Sh.nextW
            rw [Sh.sched_length, if_pos hlt]
          rw [part_four, ← HN.out]
          have hbz := hB.out.size
          go_wp2_with ((at_builtin; refine wpList_append_own _ rfl _ _ 51 rfl w.heap.size 42 i0 (.int .u32 0) 1 4 Try.underlying51 hi hi0 hi1 hi2 rfl (by decide) _ _ _ rfl (hO.out.alloc _) ⟨wo.heap.size, 0, none⟩ 1 1 [.int .u32 ((Sh.nextW b (Sh.sched b k)).toNat : Int)] rfl rfl ?c1 ?c2 ?c3 ?c4 ?c5 ?_))
          case c2 => first | rfl | (intro u hu; rw [List.mem_singleton] at hu; subst hu; rfl)
          case c3 => unfold maxLen; omega
          case c4 => omega
          case c5 => first | omega | (simp; omega)
          intro v' w3 hown3 hgrow _
          have HB3 : Hid (Below w.heap.size w w3) := (hB.out.alloc hB.out.size _).grown hgrow (by simp; omega) (fun b hb => (hO.out.lt b hb).1)
          have hcell : wcells (Sh.sched b (k + 1)) = wcells (Sh.sched b k) ++ [.int .u32 ((Sh.nextW b (Sh.sched b k)).toNat : Int)] := by
            rw [Sh.sched, wcells_append]; rfl
          rw [← hcell] at hown3
          have HO3 := Lib.hid hown3
          clear hown3 hgrow hcell
          go_wp2_with fail
          go_roundw
          case rel => exact ⟨k + 1, by omega, by go_num, HO3, HB3⟩
          case measure => simp [intOf]; omega
    · obtain rfl : k = 16 := by omega
      rw [show ((16 : Nat) : Int) = 16 from rfl]
      go_wp2_with fail
      go_loopw [3, 7] (fun v i wr => ∃ k : Nat, 16 ≤ k ∧ k ≤ 64 ∧ i = .int .i64 k ∧ Hid (wr.ownsRow w.heap.size 42 1 v k (wcells (Sh.sched b k))) ∧ Hid (Below w.heap.size w wr)) (fun _ i _ => 64 - (intOf i).toNat)
      case atStart => exact ⟨16, by omega, by omega, rfl, hO, hB⟩
      case round =>
        obtain ⟨k, hk16, hk, rfl, hO, hB⟩ := hrel
        obtain ⟨g, cap, rfl, hbg, hgl⟩ := hO.out.form (by omega)
        have HSL := Lib.hid (Sh.sched_length b k)
        by_cases hlt : k < 64
        · have hk1 : k - 16 < (Sh.sched b k).length := by rw [HSL.out]; omega
          have hk2 : k - 15 < (Sh.sched b k).length := by rw [HSL.out]; omega
          have hk3 : k - 7 < (Sh.sched b k).length := by rw [HSL.out]; omega
          have hk4 : k - 2 < (Sh.sched b k).length := by rw [HSL.out]; omega
          have d1 := own_at hO.out hk1
          have d2 := own_at hO.out hk2
          have d3 := own_at hO.out hk3
          have d4 := own_at hO.out hk4
          have HCS : Hid (∀ (w' : World), (∀ j u, (wcells (Sh.sched b k))[j]? = some u → w'.cell? ⟨g, j, none⟩ = some u) → w'.cell? ⟨g, k - 16, none⟩ = some (.int .u32 ((((Sh.sched b k)[k - 16]'hk1).toNat : Nat) : Int)) ∧ w'.cell? ⟨g, k - 7, none⟩ = some (.int .u32 ((((Sh.sched b k)[k - 7]'hk3).toNat : Nat) : Int))) :=
            fun w' h => ⟨h _ _ (wcells_at _ _ hk1), h _ _ (wcells_at _ _ hk3)⟩
          have HN : Hid (Sh.nextW b (Sh.sched b k) = ((Sh.sched b k)[k - 16]'hk1) + Sh.sig0 ((Sh.sched b k)[k - 15]'hk2) + ((Sh.sched b k)[k - 7]'hk3) + Sh.sig1 ((Sh.sched b k)[k - 2]'hk4)) := by
            unfold RowKit.Hid Sh.nextW
            rw [HSL.out, if_neg (by omega)]
            simp [List.getD, List.getElem?_eq_getElem hk1, List.getElem?_eq_getElem hk2, List.getElem?_eq_getElem hk3, List.getElem?_eq_getElem hk4]
          generalize (Sh.sched b k)[k - 16]'hk1 = x1 at *
          generalize (Sh.sched b k)[k - 15]'hk2 = x2 at *
          generalize (Sh.sched b k)[k - 7]'hk3 = x3 at *
          generalize (Sh.sched b k)[k - 2]'hk4 = x4 at *
          clear hk1 hk2 hk3 hk4
          have r1 : (16 : Int) ≤ k := by omega
          have r2 : (15 : Int) ≤ k := by omega
          have r3 : (7 : Int) ≤ k := by omega
          have r4 : (2 : Int) ≤ k := by omega
          have p0 : (0 : Int) ≤ (k : Int) - 16 := by omega
          have p1 : (k : Int) - 16 < k := by omega
          have p2 : (0 : Int) ≤ (k : Int) - 15 := by omega
          have p3 : (k : Int) - 15 < k := by omega
          have p4 : (0 : Int) ≤ (k : Int) - 7 := by omega
          have p5 : (k : Int) - 7 < k := by omega
          have p6 : (0 : Int) ≤ (k : Int) - 2 := by omega
          have p7 : (k : Int) - 2 < k := by omega
          have t0 : ((k : Int) - 16).toNat = k - 16 := by omega
          have t1 : ((k : Int) - 15).toNat = k - 15 := by omega
          have t2 : ((k : Int) - 7).toNat = k - 7 := by omega
          have t3 : ((k : Int) - 2).toNat = k - 2 := by omega
          have e0 : IntKind.i64.wrap ((k : Int) - 16) = (k : Int) - 16 := IntWalk.i64_in _ (by omega)
          have e2 : IntKind.i64.wrap ((k : Int) - 7) = (k : Int) - 7 := IntWalk.i64_in _ (by omega)
          go_wp2_with (first
            | (go_at_call 38; refine (refturnedI _ _ (by decide) (by decide) _).mono ?_; rintro e w' ⟨rfl, rfl⟩)
            | (go_at_call 34; (first | (with_reducible refine (refshifted3 _ _).mono ?_) | (with_reducible refine (refshifted10 _ _).mono ?_)); rintro e w' ⟨rfl, rfl⟩))
          have hbz := hB.out.size
          go_region_held3 (fun w' => w'.cell? ⟨g, k - 16, none⟩ = some (.int .u32 (x1.toNat : Int)) ∧ w'.cell? ⟨g, k - 7, none⟩ = some (.int .u32 (x3.toNat : Int))) (first | exact HCS.out _ hkeep | go_keep)
            ((refine step_append_keep rfl _ _ 51 rfl w.heap.size 42 i0 (.int .u32 0) 1 4 Try.underlying51 hi hi0 hi1 hi2 rfl (by decide) g k cap (wcells (Sh.sched b k)) rfl ((hO.out.alloc _).drew) ⟨wr.heap.size, 0, none⟩ 1 1 [_] rfl rfl (World.news_of_block (cs := #[_]) (heap_alloc_new _ _)) (by intro u hu; rw [List.mem_singleton] at hu; subst hu; rfl) (by decide) (by unfold maxLen; omega) (by omega) (by simp; omega) ?_; intro g2 cap2 w3 hown3 hgrow hkeep hg2))
          have HB3 : Hid (Below w.heap.size w w3) := (hB.out.alloc hbz _).drew.grown hgrow (by simp; omega) (fun b hb => by injection hb; omega)
          have hcell : wcells (Sh.sched b (k + 1)) = wcells (Sh.sched b k) ++ [.int .u32 ((Sh.nextW b (Sh.sched b k)).toNat : Int)] := by
            rw [Sh.sched, wcells_append]; rfl
          rw [HN.out] at hcell
          unfold Sh.sig0 Sh.sig1 at hcell
          simp only [u_div8m, u_div1024m, u_xor, u_addw] at hown3
          rw [← hcell] at hown3
          have HO3 := Lib.hid hown3
          rename_i hHeld
          clear hHeld hown3 hgrow hcell hkeep hg2 e0 e2 t0 t1 t2 t3 p0 p1 p2 p3 p4 p5 p6 p7 r1 r2 r3 r4 d1 d2 d3 d4
          go_wp2_with fail
          go_roundw
          case rel => exact ⟨k + 1, by omega, by omega, by go_num, HO3, HB3⟩
          case measure => simp [intOf]; omega
        · obtain rfl : k = 64 := by omega
          go_wp2_with fail
          go_ret
          exact ⟨g, cap, rfl, hO.out, hB.out⟩
end Go.Proofs.Ytofjfpnkdcpngaa
