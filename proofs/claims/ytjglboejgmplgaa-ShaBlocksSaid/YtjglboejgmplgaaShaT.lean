/-
  Texts as sums, by the package sha: Unhex; and what must come of the layer's fixed calls.
-/
import Derived.Test.YtjglboejgmplgaaShaF
import Derived.Test.YtjglboejgmplgaaShaS
namespace Go.Proofs.Ytjglboejgmplgaa
open Go.RowKit Mem

/-- a digit's value -/
def nib (c : UInt8) : Option Nat := if 48 ≤ c.toNat ∧ c.toNat ≤ 57 then some (c.toNat - 48) else if 97 ≤ c.toNat ∧ c.toNat ≤ 102 then some (c.toNat - 87) else none
theorem nib_lt {c : UInt8} {n : Nat} (h : nib c = some n) : n < 16 := by
  unfold nib at h
  split at h
  · injection h; omega
  · split at h
    · injection h; omega
    · cases h
theorem nib_dig : ∀ n, n < 16 → nib (dig n) = some n := by decide
def pairAt (l : List UInt8) (i : Nat) : Option UInt8 := (nib (l.getD (2 * i) 0)).bind fun h => (nib (l.getD (2 * i + 1) 0)).map fun k => UInt8.ofNat (16 * h + k)
def pre (l : List UInt8) (k : Nat) : List UInt8 := (List.range k).map fun i => (pairAt l i).getD 0
theorem pre_len (l : List UInt8) (k : Nat) : (pre l k).length = k := by simp [pre]
theorem pre_succ (l : List UInt8) (k : Nat) : pre l (k + 1) = pre l k ++ [(pairAt l k).getD 0] := by simp [pre, List.range_succ]
def allP (l : List UInt8) (k : Nat) : Bool := (List.range k).all fun i => (pairAt l i).isSome
theorem allP_succ (l : List UInt8) (k : Nat) : allP l (k + 1) = (allP l k && (pairAt l k).isSome) := by simp [allP, List.range_succ]
theorem allP_none {l : List UInt8} {k : Nat} (n : Nat) (hk : k < n) (h : pairAt l k = none) : allP l n = false := by
  rw [allP, List.all_eq_false]
  exact ⟨k, List.mem_range.2 hk, by simp [h]⟩
/-- what a text says as a sum -/
def unhexV (l : List UInt8) : List UInt8 × Int := if l.length = 64 ∧ allP l 32 = true then (pre l 32, 0) else (List.replicate 32 0, 4)
theorem unhexV_bad {l : List UInt8} (h : l.length ≠ 64) : unhexV l = (List.replicate 32 0, 4) := if_neg (fun h2 => h h2.1)
theorem unhexV_no {l : List UInt8} {k : Nat} (hk : k < 32) (h : pairAt l k = none) : unhexV l = (List.replicate 32 0, 4) := if_neg (fun h2 => by rw [allP_none 32 hk h] at h2; cases h2.2)
theorem unhexV_ok {l : List UInt8} (h : l.length = 64) (h2 : allP l 32 = true) : unhexV l = (pre l 32, 0) := if_pos ⟨h, h2⟩
theorem unhexV_len (l : List UInt8) : (unhexV l).1.length = 32 := by
  unfold unhexV
  split
  · exact pre_len l 32
  · simp
theorem hexL_get (l : List UInt8) : ∀ i (h : i < l.length), (hexL l).getD (2 * i) 0 = dig ((l[i]'h).toNat / 16) ∧ (hexL l).getD (2 * i + 1) 0 = dig ((l[i]'h).toNat % 16) := by
  induction l with
  | nil => intro i h; exact absurd h (by simp)
  | cons c l ih =>
    intro i h
    have e : hexL (c :: l) = dig (c.toNat / 16) :: dig (c.toNat % 16) :: hexL l := rfl
    cases i with
    | zero => rw [e]; exact ⟨rfl, rfl⟩
    | succ i =>
      have := ih i (by simpa using h)
      rw [e, show 2 * (i + 1) = (2 * i + 1) + 1 by omega, show 2 * i + 1 + 1 + 1 = (2 * i + 1 + 1) + 1 by omega]
      simpa using this
theorem pairAt_hex (l : List UInt8) (i : Nat) (h : i < l.length) : pairAt (hexL l) i = some (l[i]'h) := by
  obtain ⟨h1, h2⟩ := hexL_get l i h
  have hc := (l[i]'h).toNat_lt
  unfold pairAt
  rw [h1, h2, nib_dig _ (by omega), nib_dig _ (by omega)]
  simp only [Option.bind_some, Option.map_some]
  congr 1
  apply UInt8.toNat_inj.1
  rw [UInt8.toNat_ofNat']
  omega
/-- what is written is read as it was -/
theorem unhexV_hex (l : List UInt8) (hl : l.length = 32) : unhexV (hexL l) = (l, 0) := by
  have h1 : (hexL l).length = 64 := by rw [hexL_len, hl]
  have h2 : allP (hexL l) 32 = true := by
    rw [allP, List.all_eq_true]
    intro i hi
    rw [pairAt_hex l i (by have := List.mem_range.1 hi; omega)]
    rfl
  rw [unhexV_ok h1 h2]
  congr 1
  apply List.ext_getElem
  · rw [pre_len, hl]
  · intro i h3 h4
    simp [pre, pairAt_hex l i h4]

theorem run_index_at (l : List UInt8) (k : Nat) (h : k < l.length) (n : Int) (hn : n = k) (w : World) :
    (Instr.index 9 (.string ⟨l.toArray⟩) (.int .i64 n)).run Try.prog w = .ok (.int .u8 ((l[k]'h).toNat : Int)) w := by
  subst hn
  have hs : (⟨l.toArray⟩ : ByteArray).size = l.length := rfl
  rw [run_index_string _ _ _ _ _ Try.underlying9, dif_pos ⟨by omega, by rw [hs]; omega⟩]
  rfl
theorem shanibble_ok (c n : Nat) (w : World) (hc : c < 256) (h : (48 ≤ c ∧ c ≤ 57 ∧ n = c - 48) ∨ (97 ≤ c ∧ c ≤ 102 ∧ n = c - 87)) :
    Calls Try.prog 33 #[.int .u8 (c : Int)] w fun e w' => e = .returned (.tuple #[.int .u8 (n : Int), .bool true]) ∧ w = w' := by
  rcases h with ⟨h1, h2, rfl⟩ | ⟨h1, h2, rfl⟩
  · have e : ((c - 48 : Nat) : Int) = (c : Int) - 48 := by omega
    rw [e]
    clear e
    go_enter Try.func33, Try.ntmps33
    go_wp2_with fail
    go_ret2
    exact ⟨rfl, rfl⟩
  · have e : ((c - 87 : Nat) : Int) = (c : Int) - 97 + 10 := by omega
    rw [e]
    clear e
    go_enter Try.func33, Try.ntmps33
    go_wp2_with fail
    go_ret2
    exact ⟨rfl, rfl⟩
theorem shanibble_no (c : Nat) (w : World) (hc : c < 256) (h : ¬ (48 ≤ c ∧ c ≤ 57)) (h' : ¬ (97 ≤ c ∧ c ≤ 102)) :
    Calls Try.prog 33 #[.int .u8 (c : Int)] w fun e w' => e = .returned (.tuple #[.int .u8 0, .bool false]) ∧ w = w' := by
  rcases (show c < 48 ∨ (57 < c ∧ c < 97) ∨ 102 < c by omega) with h1 | ⟨h1, h2⟩ | h1
  all_goals
    clear h h'
    go_enter Try.func33, Try.ntmps33
    go_wp2_with fail
    go_ret2
    exact ⟨rfl, rfl⟩
theorem shanibble (c : UInt8) (w : World) : Calls Try.prog 33 #[.int .u8 (c.toNat : Int)] w fun e w' => e = .returned (.tuple #[.int .u8 (((nib c).getD 0 : Nat) : Int), .bool (nib c).isSome]) ∧ w = w' := by
  unfold nib
  split
  · rename_i h
    exact shanibble_ok _ _ w c.toNat_lt (.inl ⟨h.1, h.2, rfl⟩)
  · rename_i h
    split
    · rename_i h2
      exact shanibble_ok _ _ w c.toNat_lt (.inr ⟨h2.1, h2.2, rfl⟩)
    · rename_i h2
      exact shanibble_no _ w c.toNat_lt h h2
theorem zero_cells : (bcells (List.replicate 32 0)).toArray = Array.replicate 32 (.int .u8 0) := by kernel_rfl
def preC (l : List UInt8) (k : Nat) : Array Value := (bcells (pre l k ++ List.replicate (32 - k) 0)).toArray
theorem preC_zero (l : List UInt8) : preC l 0 = Array.replicate 32 (.int .u8 0) := zero_cells
theorem preC_size (l : List UInt8) (k : Nat) (hk : k ≤ 32) : (preC l k).size = 32 := by
  unfold preC
  rw [List.size_toArray, bcells_length, List.length_append, pre_len, List.length_replicate]
  omega
theorem preC_step (l : List UInt8) (k : Nat) (hk : k < 32) (x : UInt8) (hx : pairAt l k = some x) : (preC l k).setIfInBounds k (.int .u8 (x.toNat : Int)) = preC l (k + 1) := by
  unfold preC
  rw [List.setIfInBounds_toArray, pre_succ, hx, Option.getD_some]
  congr 1
  obtain ⟨m, hm⟩ : ∃ m, 32 - k = m + 1 := ⟨31 - k, by omega⟩
  have e : 32 - (k + 1) = m := by omega
  rw [hm, e, List.replicate_succ, bcells_append, bcells_append, bcells_append, List.append_assoc]
  have hl : (bcells (pre l k)).length = k := by rw [bcells_length, pre_len]
  rw [List.set_append_right _ _ (by omega), hl, Nat.sub_self]
  rfl
theorem preC_last (l : List UInt8) : preC l 32 = (bcells (pre l 32)).toArray := by unfold preC; rw [show 32 - 32 = 0 from rfl, List.replicate_zero, List.append_nil]
theorem join16 (h k : Nat) (hh : h < 16) (hk : k < 16) : bits .or .u8 ((h : Int) * 16) (k : Int) = ((UInt8.ofNat (16 * h + k)).toNat : Int) := by
  have e : (h : Int) * 16 = ((h * 16 : Nat) : Int) := by simp
  rw [e, u8_or_nat _ _ (by omega) (by omega), nat_join 4 _ _ (by omega) (by omega), UInt8.toNat_ofNat']
  omega
theorem cells_one32 (l : List UInt8) : (bcells l).toArray.all (·.oneCell') = true := by unfold bcells; simp [Value.oneCell']
set_option maxRecDepth 100000 in
set_option maxHeartbeats 4000000 in
theorem shaunhex (l : List UInt8) (w : World) (hm : l.length ≤ 140737488351232) :
    Calls Try.prog 21 #[.string ⟨l.toArray⟩] w fun e w' => e = .returned (.tuple #[.agg (bcells (unhexV l).1).toArray, .int .i64 (unhexV l).2]) ∧ Below w.heap.size w w' := by
  have hi : (Try.prog.info? 37).map (·.size) = some 32 := by kernel_rfl
  have HI := Lib.hid hi
  have hi1 : (Try.prog.info? 5).map (·.size) = some 1 := by kernel_rfl
  have HI1 := Lib.hid hi1
  clear hi hi1
  have hsz : (⟨l.toArray⟩ : ByteArray).size = l.length := rfl
  have HSZ := Lib.hid hsz
  clear hsz
  by_cases hl : l.length = 64
  · have HL := Lib.hid hl
    have hne : ((l.length : Int) != 64) = false := by rw [hl]; rfl
    clear hl
    go_enter Try.func21, Try.ntmps21
    go_upto_region 2 with fail
    obtain ⟨W0, hW0⟩ : ∃ W0, W0 = (w.alloc (.cells (Array.replicate 32 (.int .u8 0)) 37)).alloc (.cells (Array.replicate 32 (.int .u8 0)) 37) := ⟨_, rfl⟩
    have HR0 : Hid (W0.heap[w.heap.size]? = some (.cells (Array.replicate 32 (.int .u8 0)) 37 (0, 0))) := by rw [hW0]; exact heap_alloc2_old _ _ _
    have HR1 : Hid (W0.heap[w.heap.size + 1]? = some (.cells (preC l 0) 37 (0, 0))) := by rw [hW0, preC_zero]; exact heap_alloc2_new _ _ _
    have HB0 : Hid (Below w.heap.size w W0) := by rw [hW0]; exact ((Below.refl _ _).alloc (Nat.le_refl _) _).alloc (by simp) _
    refine wp_congr_world (W1 := W0) hW0 ?_
    clear hW0
    go_wp2_with fail
    go_loopw [14] (fun i wr => ∃ k : Nat, k ≤ 32 ∧ i = .int .i64 k ∧ Hid (allP l k = true) ∧ Hid (wr.heap[w.heap.size + 1]? = some (.cells (preC l k) 37 (0, 0))) ∧ Hid (wr.heap[w.heap.size]? = some (.cells (Array.replicate 32 (.int .u8 0)) 37 (0, 0))) ∧ Hid (Below w.heap.size w wr)) (fun i _ => 32 - (intOf i).toNat)
    case atStart => exact ⟨0, by omega, rfl, rfl, HR1, HR0, HB0⟩
    case round =>
      obtain ⟨k, hk, rfl, hall, h1, h0, hB⟩ := hrel
      by_cases hlt : k < 32
      · have hk1 : 2 * k < l.length := by rw [HL.out]; omega
        have hk2 : 2 * k + 1 < l.length := by rw [HL.out]; omega
        have HP : Hid (pairAt l k = (nib (l[2 * k]'hk1)).bind fun h => (nib (l[2 * k + 1]'hk2)).map fun m => UInt8.ofNat (16 * h + m)) := by
          unfold RowKit.Hid pairAt
          rw [List.getD_eq_getElem?_getD, List.getD_eq_getElem?_getD, List.getElem?_eq_getElem hk1, List.getElem?_eq_getElem hk2]
          rfl
        have ix1 : ∀ wx, (Instr.index 9 (.string ⟨l.toArray⟩) (.int .i64 (2 * (k : Int)))).run Try.prog wx = .ok (.int .u8 ((l[2 * k]'hk1).toNat : Int)) wx := fun wx => run_index_at l (2 * k) hk1 _ (by omega) wx
        have ix2 : ∀ wx, (Instr.index 9 (.string ⟨l.toArray⟩) (.int .i64 (2 * (k : Int) + 1))).run Try.prog wx = .ok (.int .u8 ((l[2 * k + 1]'hk2).toNat : Int)) wx := fun wx => run_index_at l (2 * k + 1) hk2 _ (by omega) wx
        generalize l[2 * k]'hk1 = c1 at *
        generalize l[2 * k + 1]'hk2 = c2 at *
        clear hk1 hk2
        have N1 := Lib.hid (fun W => shanibble c1 W)
        have N2 := Lib.hid (fun W => shanibble c2 W)
        rcases hn1 : nib c1 with _ | x
        · rw [hn1] at N1
          have HNO : Hid (unhexV l = (List.replicate 32 0, 4)) := unhexV_no hlt (by rw [HP.out, hn1]; rfl)
          clear hn1 HP
          go_wp2_with fail
          refine (N1.out _).mono ?_
          rintro e w' ⟨rfl, rfl⟩
          go_wp2_with fail
          refine (N2.out _).mono ?_
          rintro e w' ⟨rfl, rfl⟩
          go_wp2_with (refine wpList_store_row rfl 37 (.tmp 2) (.tmp 40) rfl w.heap.size (bcells (List.replicate 32 0)).toArray rfl (by kernel_rfl) _ _ h0.out (by rw [HI.out]; rfl) rfl (cells_one32 _) ?_)
          exact bodyPost_ret (v := .tuple #[.agg (bcells (List.replicate 32 0)).toArray, .int .i64 4]) (results_row_tmp (P := Try.prog) (d := .array 32 5) rfl _ _ w.heap.size _ _ _ _ rfl (setRow_heap _ _ _ _ _ _ h0.out) (by kernel_rfl) rfl (by rw [HI.out]; rfl) rfl) rfl ⟨by rw [HNO.out], below_setRow hB.out (Nat.le_refl _)⟩
        · rw [hn1] at N1
          rcases hn2 : nib c2 with _ | y
          · rw [hn2] at N2
            have HNO : Hid (unhexV l = (List.replicate 32 0, 4)) := unhexV_no hlt (by rw [HP.out, hn1, hn2]; rfl)
            clear hn1 hn2 HP
            go_wp2_with fail
            refine (N1.out _).mono ?_
            rintro e w' ⟨rfl, rfl⟩
            go_wp2_with fail
            refine (N2.out _).mono ?_
            rintro e w' ⟨rfl, rfl⟩
            go_wp2_with (refine wpList_store_row rfl 37 (.tmp 2) (.tmp 40) rfl w.heap.size (bcells (List.replicate 32 0)).toArray rfl (by kernel_rfl) _ _ h0.out (by rw [HI.out]; rfl) rfl (cells_one32 _) ?_)
            exact bodyPost_ret (v := .tuple #[.agg (bcells (List.replicate 32 0)).toArray, .int .i64 4]) (results_row_tmp (P := Try.prog) (d := .array 32 5) rfl _ _ w.heap.size _ _ _ _ rfl (setRow_heap _ _ _ _ _ _ h0.out) (by kernel_rfl) rfl (by rw [HI.out]; rfl) rfl) rfl ⟨by rw [HNO.out], below_setRow hB.out (Nat.le_refl _)⟩
          · rw [hn2] at N2
            have hx16 := nib_lt hn1
            have hy16 := nib_lt hn2
            have HPX : Hid (pairAt l k = some (UInt8.ofNat (16 * x + y))) := by unfold RowKit.Hid; rw [HP.out, hn1, hn2]; rfl
            have HALL : Hid (allP l (k + 1) = true) := by unfold RowKit.Hid; rw [allP_succ, hall.out, HPX.out]; rfl
            have HST := Lib.hid (preC_step l k hlt _ HPX.out)
            have HJ := Lib.hid (join16 x y hx16 hy16)
            have N1' : ∀ W, Calls Try.prog 33 #[.int .u8 (c1.toNat : Int)] W fun e w' => e = .returned (.tuple #[.int .u8 (x : Int), .bool true]) ∧ W = w' := N1.out
            have N2' : ∀ W, Calls Try.prog 33 #[.int .u8 (c2.toNat : Int)] W fun e w' => e = .returned (.tuple #[.int .u8 (y : Int), .bool true]) ∧ W = w' := N2.out
            have M1 := Lib.hid N1'
            have M2 := Lib.hid N2'
            have x0 : (0 : Int) ≤ x := by omega
            have x1 : (x : Int) ≤ 15 := by omega
            have y0 : (0 : Int) ≤ y := by omega
            have y1 : (y : Int) ≤ 15 := by omega
            have HSZ32 := Lib.hid (preC_size l k hk)
            have r0 : (0 : Int) ≤ k := by omega
            have r1 : (k : Int) < 32 := by omega
            clear hn1 hn2 HP N1' N2' N1 N2
            go_wp2_with fail
            refine (M1.out _).mono ?_
            rintro e w' ⟨rfl, rfl⟩
            go_wp2_with fail
            refine (M2.out _).mono ?_
            rintro e w' ⟨rfl, rfl⟩
            clear ix1 ix2
            go_wp2_with (refine wpList_store1 rfl 5 (.tmp 46) (.tmp 45) rfl (w.heap.size + 1) k .u8 _ rfl rfl h1.out (by rw [HSZ32.out]; exact hlt) HI1.out ?_; intro y1 r1 m1; have R1 := Lib.hid r1; have G1 := Lib.hid m1; clear r1 m1)
            have E1 : Hid (y1.heap[w.heap.size + 1]? = some (.cells (preC l (k + 1)) 37 (0, 0))) := by unfold RowKit.Hid; rw [← HST.out, ← HJ.out]; exact R1.out
            have E0 : Hid (y1.heap[w.heap.size]? = some (.cells (Array.replicate 32 (.int .u8 0)) 37 (0, 0))) := other_by G1.out (by omega) h0.out
            have EB : Hid (Below w.heap.size w y1) := below_by hB.out G1.out hB.out.size (by omega)
            go_roundw
            case rel => exact ⟨k + 1, by omega, by go_num, HALL, E1, E0, EB⟩
            case measure => simp [intOf]; omega
      · obtain rfl : k = 32 := by omega
        have HOK : Hid (unhexV l = (pre l 32, 0)) := unhexV_ok HL.out hall.out
        rw [preC_last] at h1
        have HSP : Hid ((bcells (pre l 32)).toArray.size = 32) := by unfold RowKit.Hid; rw [List.size_toArray, bcells_length, pre_len]
        generalize pre l 32 = pl at *
        go_wp2_with (first
          | refine wpList_load_row rfl 37 (.tmp 4) rfl (w.heap.size + 1) rfl _ _ _ (.array 32 5) h1.out (by kernel_rfl) rfl (by rw [HI.out, HSP.out]) ?_
          | refine wpList_store_row rfl 37 (.tmp 2) (.tmp 48) rfl w.heap.size (bcells pl).toArray rfl rfl _ _ h0.out (by rw [HI.out, HSP.out]) (by rw [HSP.out]; rfl) (cells_one32 _) ?_)
        exact bodyPost_ret (v := .tuple #[.agg (bcells pl).toArray, .int .i64 0]) (results_row_tmp (P := Try.prog) (d := .array 32 5) rfl _ _ w.heap.size _ _ _ _ rfl (setRow_heap _ _ _ _ _ _ h0.out) (by kernel_rfl) rfl (by rw [HI.out, HSP.out]) rfl) rfl ⟨by rw [HOK.out], below_setRow hB.out (Nat.le_refl _)⟩
  · have HNO := Lib.hid (unhexV_bad hl)
    have hne : ((l.length : Int) != 64) = true := by rw [bne_iff_ne]; omega
    clear hl
    go_enter Try.func21, Try.ntmps21
    go_upto_region 2 with fail
    obtain ⟨W0, hW0⟩ : ∃ W0, W0 = (w.alloc (.cells (Array.replicate 32 (.int .u8 0)) 37)).alloc (.cells (Array.replicate 32 (.int .u8 0)) 37) := ⟨_, rfl⟩
    have HR0 : Hid (W0.heap[w.heap.size]? = some (.cells (Array.replicate 32 (.int .u8 0)) 37 (0, 0))) := by rw [hW0]; exact heap_alloc2_old _ _ _
    have HR1 : Hid (W0.heap[w.heap.size + 1]? = some (.cells (bcells (List.replicate 32 0)).toArray 37 (0, 0))) := by rw [hW0, zero_cells]; exact heap_alloc2_new _ _ _
    have HB0 : Hid (Below w.heap.size w W0) := by rw [hW0]; exact ((Below.refl _ _).alloc (Nat.le_refl _) _).alloc (by simp) _
    refine wp_congr_world (W1 := W0) hW0 ?_
    clear hW0
    have HSP : Hid ((bcells (List.replicate 32 0)).toArray.size = 32) := by unfold RowKit.Hid; rw [List.size_toArray, bcells_length]; rfl
    generalize List.replicate 32 (0 : UInt8) = pl at *
    go_wp2_with (first
      | refine wpList_load_row rfl 37 (.tmp 4) rfl (w.heap.size + 1) rfl _ _ _ (.array 32 5) HR1.out (by kernel_rfl) rfl (by rw [HI.out, HSP.out]) ?_
      | refine wpList_store_row rfl 37 (.tmp 2) (.tmp 13) rfl w.heap.size (bcells pl).toArray rfl rfl _ _ HR0.out (by rw [HI.out, HSP.out]) (by rw [HSP.out]; rfl) (cells_one32 _) ?_)
    exact bodyPost_ret (v := .tuple #[.agg (bcells pl).toArray, .int .i64 4]) (results_row_tmp (P := Try.prog) (d := .array 32 5) rfl _ _ w.heap.size _ _ _ _ rfl (setRow_heap _ _ _ _ _ _ HR0.out) (by kernel_rfl) rfl (by rw [HI.out, HSP.out]) rfl) rfl ⟨by rw [HNO.out], below_setRow HB0.out (Nat.le_refl _)⟩
theorem sumOf_len (b : List UInt8) : (sumOf b).length = 32 := by
  unfold sumOf
  rw [outB_len]
  rfl
theorem src_new (w : World) (t : TypeId) (fr : Nat × Nat) (l : List UInt8) (n g : Nat) (hn : n = l.length) (hg : g = w.heap.size) : Src (w.alloc (.cells (bcells l).toArray t fr)) (some ⟨g, 0, none⟩) n n (bcells l) 1 :=
  ⟨by rw [bcells_length, hn, Nat.mul_one], fun h => (by cases h), fun ad h j u hu => by
    injection h with h
    subst h
    subst hg
    rw [add_at, cell_of_row _ w.heap.size j _ t fr (heap_alloc_new w _)]
    simpa using hu⟩
def abc : List UInt8 := [97, 98, 99]
def abcHex : List UInt8 := [98, 97, 55, 56, 49, 54, 98, 102, 56, 102, 48, 49, 99, 102, 101, 97, 52, 49, 52, 49, 52, 48, 100, 101, 53, 100, 97, 101, 50, 50, 50, 51, 98, 48, 48, 51, 54, 49, 97, 51, 57, 54, 49, 55, 55, 97, 57, 99, 98, 52, 49, 48, 102, 102, 54, 49, 102, 50, 48, 48, 49, 53, 97, 100]
theorem abc_hex : hexL (sumOf abc) = abcHex := by decide +kernel
end Go.Proofs.Ytjglboejgmplgaa
