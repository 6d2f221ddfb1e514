/-
  A block's numbers, by the package sha.
-/
import Derived.Test.YtjhopgmionpkoaaSha1
import Derived.IntWalk
namespace Go.Proofs.Ytjhopgmionpkoaa
set_option maxRecDepth 20000
open Go.RowKit Mem

theorem wcells_at (l : List UInt32) (k : Nat) (h : k < l.length) : (wcells l)[k]? = some (.int .u32 (((l[k]'h).toNat : Nat) : Int)) := by
  unfold wcells; rw [List.getElem?_map, List.getElem?_eq_getElem h]; rfl
theorem wcells_append (a b : List UInt32) : wcells (a ++ b) = wcells a ++ wcells b := List.map_append
/-- a block of 64 numbers of which the first ones are known -/
def Wk (w : World) (g : Nat) (l : List UInt32) : Prop := ∃ cur : Array Value, w.heap[g]? = some (.cells cur 127 (0, 0)) ∧ cur.size = 64 ∧ cur.toList.take l.length = wcells l
theorem Wk.at_ {w : World} {g : Nat} {l : List UInt32} (h : Wk w g l) (k : Nat) (hk : k < l.length) : w.cell? ⟨g, k, none⟩ = some (.int .u32 (((l[k]'hk).toNat : Nat) : Int)) := by
  obtain ⟨cur, hg, hs, ht⟩ := h
  rw [cell_of_row w g k cur _ (0, 0) hg]
  have := wcells_at l k hk
  rw [← ht, List.getElem?_take, if_pos hk] at this
  simpa using this
theorem Wk.any {w : World} {g : Nat} {l : List UInt32} (h : Wk w g l) (k : Nat) (hk : k < 64) : (∃ v, w.cell? ⟨g, k, none⟩ = some v) ∧ w.frozen? ⟨g, k, none⟩ = false := by
  obtain ⟨cur, hg, hs, ht⟩ := h
  refine ⟨⟨cur[k]'(by omega), ?_⟩, frozen_of_row w g k cur _ hg⟩
  rw [cell_of_row w g k cur _ (0, 0) hg]
  simp
theorem Wk.set_ {w : World} {g : Nat} {l : List UInt32} (h : Wk w g l) (hl : l.length < 64) (x : UInt32) (u : Value) (hu : u = .int .u32 (x.toNat : Int)) : Wk (w.setCell ⟨g, l.length, none⟩ u) g (l ++ [x]) := by
  obtain ⟨cur, hg, hs, ht⟩ := h
  subst hu
  refine ⟨_, heap_setCell_same w g l.length cur _ _ hg, by simpa using hs, ?_⟩
  rw [List.length_append, List.length_singleton, wcells_append, ← ht, Array.toList_setIfInBounds, List.take_succ_eq_append_getElem (by simp; omega)]
  simp [wcells, List.take_set]
  rw [List.set_eq_of_length_le (by simp; omega)]
theorem Wk.drewN {w : World} {g : Nat} {l : List UInt32} (h : Wk w g l) (n : Nat) : Wk (w.drewN n) g l := h
theorem Wk.far {w : World} {g : Nat} {l : List UInt32} (h : Wk w g l) {a : Addr} (ha : g ≠ a.block) (u : Value) : Wk (w.setCell a u) g l := by
  obtain ⟨cur, hg, hs, ht⟩ := h
  exact ⟨cur, by rw [heap_setCell_other _ _ _ _ ha]; exact hg, hs, ht⟩
theorem far_cell {w : World} {g i b j : Nat} {u v : Value} (hne : b ≠ g) (h : w.cell? ⟨b, j, none⟩ = some v) : (w.setCell ⟨g, i, none⟩ u).drew.cell? ⟨b, j, none⟩ = some v :=
  (World.cell?_setCell_other w ⟨g, i, none⟩ ⟨b, j, none⟩ u (fun e => by injection e; omega)).trans h
theorem same_cell {w : World} {g i j : Nat} {u v : Value} (hne : j ≠ i) (h : w.cell? ⟨g, j, none⟩ = some v) : (w.setCell ⟨g, i, none⟩ u).drew.cell? ⟨g, j, none⟩ = some v :=
  (World.cell?_setCell_other w ⟨g, i, none⟩ ⟨g, j, none⟩ u (fun e => by injection e; omega)).trans h
theorem word_toNat (b0 b1 b2 b3 : UInt8) : (Sh.word b0 b1 b2 b3).toNat = ((b0.toNat * 256 + b1.toNat) * 256 + b2.toNat) * 256 + b3.toNat := by
  have h0 := b0.toNat_lt
  have h1 := b1.toNat_lt
  have h2 := b2.toNat_lt
  have h3 := b3.toNat_lt
  unfold Sh.word
  rw [UInt32.toNat_ofNat', Nat.mod_eq_of_lt (by omega)]
theorem word_or (b0 b1 b2 b3 : UInt8) : bits .or .u32 (bits .or .u32 (bits .or .u32 (IntKind.u32.wrap (IntKind.u32.wrap (b0.toNat : Int) * 16777216)) (IntKind.u32.wrap (IntKind.u32.wrap (b1.toNat : Int) * 65536))) (IntKind.u32.wrap (IntKind.u32.wrap (b2.toNat : Int) * 256))) (IntKind.u32.wrap (b3.toNat : Int)) = ((Sh.word b0 b1 b2 b3).toNat : Int) := by
  have h0 := b0.toNat_lt
  have h1 := b1.toNat_lt
  have h2 := b2.toNat_lt
  have h3 := b3.toNat_lt
  rw [word_toNat]
  generalize b0.toNat = x0 at *
  generalize b1.toNat = x1 at *
  generalize b2.toNat = x2 at *
  generalize b3.toNat = x3 at *
  have q0 : IntKind.u32.wrap (IntKind.u32.wrap (x0 : Int) * 16777216) = ((x0 * 16777216 : Nat) : Int) := by simp only [IntKind.wrap_u32']; omega
  have q1 : IntKind.u32.wrap (IntKind.u32.wrap (x1 : Int) * 65536) = ((x1 * 65536 : Nat) : Int) := by simp only [IntKind.wrap_u32']; omega
  have q2 : IntKind.u32.wrap (IntKind.u32.wrap (x2 : Int) * 256) = ((x2 * 256 : Nat) : Int) := by simp only [IntKind.wrap_u32']; omega
  have q3 : IntKind.u32.wrap (x3 : Int) = (x3 : Int) := by simp only [IntKind.wrap_u32']; omega
  rw [q0, q1, q2, q3, u32_or_nat _ _ (by omega) (by omega), nat_join 24 _ _ (by omega) (by omega), u32_or_nat _ _ (by omega) (by omega), nat_join 16 _ _ (by omega) (by omega), u32_or_nat _ _ (by omega) (by omega), nat_join 8 _ _ (by omega) (by omega)]
  refine congrArg (fun n : Nat => (n : Int)) ?_
  omega
set_option maxRecDepth 100000 in
set_option maxHeartbeats 1000000 in
theorem shaschedule (b : List UInt8) (A : Option Addr) (c : Nat) (w : World) (hA : BytesAt w A b) (hl : b.length = 64) :
    Calls Try.prog 104 #[.slice A 64 c] w fun e w' => e = .returned (.agg (wcells (Sh.sched b 64)).toArray) ∧ Below w.heap.size w w' := by
  have HA := Lib.hid hA
  have HL := Lib.hid hl
  clear hA hl
  go_enter Try.func104, Try.ntmps104
  go_wp2_with fail
  go_loopw [7] (fun i wr => ∃ k : Nat, k ≤ 64 ∧ i = .int .i64 k ∧ Hid (Wk wr (w.heap.size + 1) (Sh.sched b k)) ∧ Hid (∃ cur : Array Value, wr.heap[w.heap.size]? = some (.cells cur 127 (0, 0)) ∧ cur.size = 64) ∧ Hid (Below w.heap.size w wr)) (fun i _ => 64 - (intOf i).toNat)
  case atStart => exact ⟨0, by omega, rfl, ⟨_, heap_alloc2_new _ _ _, rfl, rfl⟩, ⟨_, heap_alloc2_old _ _ _, rfl⟩, ((Below.refl _ _).alloc (Nat.le_refl _) _).alloc (by simp) _⟩
  case round =>
    obtain ⟨k, hk, rfl, hW, hR, hB⟩ := hrel
    by_cases hlt : k < 64
    · have hsl := Sh.sched_length b k
      obtain ⟨⟨v0, hv0⟩, hfz⟩ := hW.out.any k hlt
      have HSL := Lib.hid hsl
      have HK : Hid (∀ n u, u = Value.int .u32 ((Sh.nextW b (Sh.sched b k)).toNat : Int) → Wk ((wr.drewN n).setCell ⟨w.heap.size + 1, k, none⟩ u) (w.heap.size + 1) (Sh.sched b (k + 1))) := fun n u hu => by
        have := (hW.out.drewN n).set_ (by omega) _ u hu
        rw [hsl] at this
        exact this
      have HR : Hid (∀ n u, ∃ cur : Array Value, ((wr.drewN n).setCell ⟨w.heap.size + 1, k, none⟩ u).heap[w.heap.size]? = some (.cells cur 127 (0, 0)) ∧ cur.size = 64) := fun n u => by
        obtain ⟨cur, h1, h2⟩ := hR.out
        exact ⟨cur, (heap_setCell_other (wr.drewN n) ⟨w.heap.size + 1, k, none⟩ w.heap.size u (by simp)).trans h1, h2⟩
      have HBs : Hid (∀ n u, Below w.heap.size w ((wr.drewN n).setCell ⟨w.heap.size + 1, k, none⟩ u)) := fun n u => (below_drewN hB.out n).setCell (by simp) u
      clear hsl
      by_cases h16 : k < 16
      · obtain ⟨bb, off, rfl, c0⟩ := HA.out.below hB.out (Nat.le_refl _) (4 * k) (by have := HL.out; omega)
        obtain ⟨bb1, off1, hbo, c1⟩ := HA.out.below hB.out (Nat.le_refl _) (4 * k + 1) (by have := HL.out; omega)
        simp only [Option.some.injEq, Addr.mk.injEq, and_true] at hbo
        obtain ⟨rfl, rfl⟩ := hbo
        obtain ⟨bb1, off1, hbo, c2⟩ := HA.out.below hB.out (Nat.le_refl _) (4 * k + 2) (by have := HL.out; omega)
        simp only [Option.some.injEq, Addr.mk.injEq, and_true] at hbo
        obtain ⟨rfl, rfl⟩ := hbo
        obtain ⟨bb1, off1, hbo, c3⟩ := HA.out.below hB.out (Nat.le_refl _) (4 * k + 3) (by have := HL.out; omega)
        simp only [Option.some.injEq, Addr.mk.injEq, and_true] at hbo
        obtain ⟨rfl, rfl⟩ := hbo
        have hbw : bb < w.heap.size := by
          obtain ⟨_, _, he, hc⟩ := HA.out (4 * k) (by have := HL.out; omega)
          have := World.block_lt_of_cell? _ _ hc
          simp only [Option.some.injEq, Addr.mk.injEq, and_true] at he
          obtain ⟨rfl, rfl⟩ := he
          exact this
        have hne : bb ≠ w.heap.size + 1 := by omega
        generalize hb0 : (b[4 * k]'_) = b0 at c0
        generalize hb1 : (b[4 * k + 1]'_) = b1 at c1
        generalize hb2 : (b[4 * k + 2]'_) = b2 at c2
        generalize hb3 : (b[4 * k + 3]'_) = b3 at c3
        have HW : Hid (Sh.nextW b (Sh.sched b k) = Sh.word b0 b1 b2 b3) := by
          unfold RowKit.Hid Sh.nextW
          rw [HSL.out, if_pos h16, ← hb0, ← hb1, ← hb2, ← hb3]
          simp [List.getD, List.getElem?_eq_getElem (show 4 * k < b.length by have := HL.out; omega), List.getElem?_eq_getElem (show 4 * k + 1 < b.length by have := HL.out; omega), List.getElem?_eq_getElem (show 4 * k + 2 < b.length by have := HL.out; omega), List.getElem?_eq_getElem (show 4 * k + 3 < b.length by have := HL.out; omega)]
        clear hb0 hb1 hb2 hb3
        have r0 : (0 : Int) ≤ k := by omega
        have r1 : (k : Int) < 16 := by omega
        have p0 : (0 : Int) ≤ 4 * (k : Int) := by omega
        have p1 : 4 * (k : Int) < 64 := by omega
        have p2 : (0 : Int) ≤ 4 * (k : Int) + 1 := by omega
        have p3 : 4 * (k : Int) + 1 < 64 := by omega
        have p4 : (0 : Int) ≤ 4 * (k : Int) + 2 := by omega
        have p5 : 4 * (k : Int) + 2 < 64 := by omega
        have p6 : (0 : Int) ≤ 4 * (k : Int) + 3 := by omega
        have p7 : 4 * (k : Int) + 3 < 64 := by omega
        have t0 : (4 * (k : Int)).toNat = 4 * k := by omega
        have t1 : (4 * (k : Int) + 1).toNat = 4 * k + 1 := by omega
        have t2 : (4 * (k : Int) + 2).toNat = 4 * k + 2 := by omega
        have t3 : (4 * (k : Int) + 3).toNat = 4 * k + 3 := by omega
        have e0 : IntKind.i64.wrap (4 * (k : Int)) = 4 * (k : Int) := IntWalk.i64_in _ (by omega)
        have e1 : IntKind.i64.wrap (4 * (k : Int) + 1) = 4 * (k : Int) + 1 := IntWalk.i64_in _ (by omega)
        have e2 : IntKind.i64.wrap (4 * (k : Int) + 2) = 4 * (k : Int) + 2 := IntWalk.i64_in _ (by omega)
        have e3 : IntKind.i64.wrap (4 * (k : Int) + 3) = 4 * (k : Int) + 3 := IntWalk.i64_in _ (by omega)
        go_wp2_with fail
        go_region_held3 (fun w' => w'.cell? ⟨bb, off + 4 * k, none⟩ = some (.int .u8 (b0.toNat : Int)) ∧ w'.cell? ⟨bb, off + (4 * k + 1), none⟩ = some (.int .u8 (b1.toNat : Int)) ∧ w'.cell? ⟨bb, off + (4 * k + 2), none⟩ = some (.int .u8 (b2.toNat : Int)) ∧ w'.cell? ⟨bb, off + (4 * k + 3), none⟩ = some (.int .u8 (b3.toNat : Int))) (first | exact ⟨c0, c1, c2, c3⟩ | exact ⟨far_cell hne c0, far_cell hne c1, far_cell hne c2, far_cell hne c3⟩ | go_keep) ((fail))
        rename_i hHeld
        clear hHeld
        rw [word_or, ← HW.out]
        clear e0 e1 e2 e3 t0 t1 t2 t3 p0 p1 p2 p3 p4 p5 p6 p7
        generalize Sh.nextW b (Sh.sched b k) = nx at *
        have HKu : Hid (Wk (wr.setCell ⟨w.heap.size + 1, k, none⟩ (.int .u32 (nx.toNat : Int))).drew (w.heap.size + 1) (Sh.sched b (k + 1))) := HK.out 1 _ rfl
        have HRu : Hid (∃ cur : Array Value, (wr.setCell ⟨w.heap.size + 1, k, none⟩ (.int .u32 (nx.toNat : Int))).drew.heap[w.heap.size]? = some (.cells cur 127 (0, 0)) ∧ cur.size = 64) := HR.out 1 _
        have HBu : Hid (Below w.heap.size w (wr.setCell ⟨w.heap.size + 1, k, none⟩ (.int .u32 (nx.toNat : Int))).drew) := HBs.out 1 _
        go_wp2_with fail
        go_roundw
        case rel => exact ⟨k + 1, by omega, by go_num, HKu, HRu, HBu⟩
        case measure => simp [intOf]; omega
      · have hk1 : k - 16 < (Sh.sched b k).length := by rw [HSL.out]; omega
        have hk2 : k - 15 < (Sh.sched b k).length := by rw [HSL.out]; omega
        have hk3 : k - 7 < (Sh.sched b k).length := by rw [HSL.out]; omega
        have hk4 : k - 2 < (Sh.sched b k).length := by rw [HSL.out]; omega
        have c1 := hW.out.at_ _ hk1
        have c2 := hW.out.at_ _ hk2
        have c3 := hW.out.at_ _ hk3
        have c4 := hW.out.at_ _ hk4
        have HN : Hid (Sh.nextW b (Sh.sched b k) = ((Sh.sched b k)[k - 16]'hk1) + Sh.sig0 ((Sh.sched b k)[k - 15]'hk2) + ((Sh.sched b k)[k - 7]'hk3) + Sh.sig1 ((Sh.sched b k)[k - 2]'hk4)) := by
          unfold RowKit.Hid Sh.nextW
          rw [HSL.out, if_neg h16]
          simp [List.getD, List.getElem?_eq_getElem hk1, List.getElem?_eq_getElem hk2, List.getElem?_eq_getElem hk3, List.getElem?_eq_getElem hk4]
        generalize (Sh.sched b k)[k - 16]'hk1 = x1 at *
        generalize (Sh.sched b k)[k - 15]'hk2 = x2 at *
        generalize (Sh.sched b k)[k - 7]'hk3 = x3 at *
        generalize (Sh.sched b k)[k - 2]'hk4 = x4 at *
        clear hk1 hk2 hk3 hk4
        have r1 : (16 : Int) ≤ k := by omega
        have r2 : (15 : Int) ≤ k := by omega
        have r3 : (7 : Int) ≤ k := by omega
        have r4 : (2 : Int) ≤ k := by omega
        have p0 : (0 : Int) ≤ (k : Int) - 16 := by omega
        have p1 : (k : Int) - 16 < 64 := by omega
        have p2 : (0 : Int) ≤ (k : Int) - 15 := by omega
        have p3 : (k : Int) - 15 < 64 := by omega
        have p4 : (0 : Int) ≤ (k : Int) - 7 := by omega
        have p5 : (k : Int) - 7 < 64 := by omega
        have p6 : (0 : Int) ≤ (k : Int) - 2 := by omega
        have p7 : (k : Int) - 2 < 64 := by omega
        have p8 : (0 : Int) ≤ (k : Int) := by omega
        have p9 : (k : Int) < 64 := by omega
        have t0 : ((k : Int) - 16).toNat = k - 16 := by omega
        have t1 : ((k : Int) - 15).toNat = k - 15 := by omega
        have t2 : ((k : Int) - 7).toNat = k - 7 := by omega
        have t3 : ((k : Int) - 2).toNat = k - 2 := by omega
        have e0 : IntKind.i64.wrap ((k : Int) - 16) = (k : Int) - 16 := IntWalk.i64_in _ (by omega)
        have e1 : IntKind.i64.wrap ((k : Int) - 15) = (k : Int) - 15 := IntWalk.i64_in _ (by omega)
        have e2 : IntKind.i64.wrap ((k : Int) - 7) = (k : Int) - 7 := IntWalk.i64_in _ (by omega)
        have e3 : IntKind.i64.wrap ((k : Int) - 2) = (k : Int) - 2 := IntWalk.i64_in _ (by omega)
        go_wp2_with fail
        go_quiet (fail)
        go_wp2_with fail
        go_region_held3 (fun w' => w'.cell? ⟨w.heap.size + 1, k - 16, none⟩ = some (.int .u32 (x1.toNat : Int)) ∧ w'.cell? ⟨w.heap.size + 1, k - 7, none⟩ = some (.int .u32 (x3.toNat : Int))) (first | exact ⟨c1, c3⟩ | exact ⟨same_cell (by omega) c1, same_cell (by omega) c3⟩ | go_keep) ((go_at_call 106; refine (sharight _ _ (by decide) _).mono ?_; rintro e w' ⟨rfl, rfl⟩))
        all_goals
          rename_i hHeld
          clear hHeld
          simp only [u_div8, u_div1024, u_xor, u_addw]
          clear e0 e1 e2 e3 t0 t1 t2 t3 p0 p1 p2 p3 p4 p5 p6 p7 p8 p9 r1 r2 r3 r4 c1 c2 c3 c4
          obtain ⟨u, hu⟩ : ∃ u : Value, u = Value.int .u32 ((Sh.nextW b (Sh.sched b k)).toNat : Int) := ⟨_, rfl⟩
          have hu2 := hu
          rw [HN.out] at hu2
          unfold Sh.sig0 Sh.sig1 at hu2
          rw [← hu2]
          have HKu := Lib.hid (HK.out (nq + 1) u hu)
          have HRu := Lib.hid (HR.out (nq + 1) u)
          have HBu := Lib.hid (HBs.out (nq + 1) u)
          clear hu hu2
          go_wp2_with fail
          go_roundw
          case rel => exact ⟨k + 1, by omega, by go_num, HKu, HRu, HBu⟩
          case measure => simp [intOf]; omega
    · obtain rfl : k = 64 := by omega
      obtain ⟨cur, hc1, hc2, hc3⟩ := hW.out
      obtain ⟨cur2, hd1, hd2⟩ := hR.out
      have hcur : cur = (wcells (Sh.sched b 64)).toArray := by
        rw [← hc3, Sh.sched_length, List.take_of_length_le (by simp; omega)]
      subst hcur
      have HC := Lib.hid hc1
      have HD := Lib.hid hd1
      have HS := Lib.hid hc2
      have HS2 := Lib.hid hd2
      have hi : (Try.prog.info? 127).map (·.size) = some 64 := by kernel_rfl
      have HI := Lib.hid hi
      clear hc1 hd1 hc2 hd2 hc3 hi
      go_wp2_with (first
        | refine wpList_load_row rfl 127 (.tmp 3) rfl (w.heap.size + 1) rfl _ _ _ (.array 64 22) HC.out (by kernel_rfl) rfl (by rw [HI.out, HS.out]) ?_
        | refine wpList_store_row rfl 127 (.tmp 2) (.tmp 85) rfl w.heap.size (wcells (Sh.sched b 64)).toArray rfl rfl _ _ HD.out (by rw [HI.out, HS.out]) (by rw [HS.out, HS2.out]) (wcells_one _) ?_)
      refine bodyPost_ret (v := .agg (wcells (Sh.sched b 64)).toArray) (results_cell_row (P := Try.prog) (d := .array 64 22) rfl _ _ w.heap.size _ _ _ rfl (setRow_heap _ _ _ _ _ _ HD.out) (by kernel_rfl) rfl (by rw [HI.out, HS.out])) rfl ⟨rfl, below_setRow hB.out (Nat.le_refl _)⟩
end Go.Proofs.Ytjhopgmionpkoaa
