/-
  Two arrays of numbers are compared; a slice's head and its rest, with what Spoil leaves of the head.
-/
import Derived.Test.YtofjfpnkdcpngaaSpoil
import Derived.Test.YtofjfpnkdcpngaaOpenB
import Derived.Stop.BytesEq
namespace Go.Proofs.Ytofjfpnkdcpngaa
open Go.RowKit Go.ChangeShapes Mem

/-- a slice of bytes that came in -/
def BArg (w : World) (A : Option Addr) (c : Nat) (bs : List UInt8) : Prop := BSrc w A c bs ∧ bs.length ≤ c ∧ c ≤ 140737488351232
theorem equalIn_self {P : Program} (w : World) (d : Nat) (t e : TypeId) (n : Nat) (k : IntKind) (ht : P.underlying t = some (.array n e)) (he : P.underlying e = some (.int k)) (hsz : ∀ w, (sizeOf e).run P w = .ok 1 w)
    (xs : List Int) (hx : xs.length = n) :
    (Op.equalIn (d + 2) t (.agg (xs.map (Value.int k)).toArray) (.agg (xs.map (Value.int k)).toArray)).run P w = .ok true w := by
  rw [Op.equalIn]
  simp only [Sem.run_bind, run_underlying ht, Result.andThen_ok, hsz, Std.Legacy.Range.forIn_eq_forIn_range', Std.Legacy.Range.size, Nat.sub_zero, Nat.add_sub_cancel, Nat.div_one]
  have hl : ∀ i ∈ List.range' 0 n 1, i < n := fun i hi => by simpa using (List.mem_range'_1.1 hi).2
  generalize List.range' 0 n 1 = l at hl ⊢
  induction l with
  | nil => simp
  | cons i l ih =>
    have hi : i < n := hl i (by simp)
    have px : (part e (xs.map (Value.int k)).toArray (i * 1)).run P w = .ok (.int k (xs.getD i 0)) w := by
      simp [part, isAgg, run_underlying he, List.getD, List.getElem?_eq_getElem (show i < xs.length by omega)]
    have pe : (Op.equalIn (d + 1) e (.int k (xs.getD i 0)) (.int k (xs.getD i 0))).run P w = .ok true w := by
      rw [run_equalIn_int w d e k k _ _ he]
      simp
    simp only [List.forIn_cons, Sem.run_bind, px, pe, Result.andThen_ok]
    simp only [Bool.not_true, Bool.false_eq_true, if_false, Sem.run_pure, Result.andThen_ok]
    exact ih fun j hj => hl j (by simp [hj])
theorem size_of_u8 (w : World) : (sizeOf 5).run Try.prog w = .ok 1 w := by
  obtain ⟨i0, hi, hi0, hi1, hi2⟩ := info_parts infoByte
  rw [run_sizeOf _ hi]
  have : Try.prog.cellsOf 5 = 1 := by kernel_rfl
  rw [this]
theorem eq32 (xs ys : List UInt8) (hx : xs.length = 32) (hy : ys.length = 32) (w : World) : (Op.equalIn 10000 27 (.agg (bcells xs).toArray) (.agg (bcells ys).toArray)).run Try.prog w = .ok (xs == ys) w :=
  run_equalIn_bytes (P := Try.prog) w 9998 27 5 32 (by kernel_rfl) (by kernel_rfl) size_of_u8 xs ys hx hy
theorem eql32 (xs ys : List UInt8) (hx : xs.length = 32) (hy : ys.length = 32) (w : World) : (binOp .eql 27 (.agg (bcells xs).toArray) (.agg (bcells ys).toArray)).run Try.prog w = .ok (.bool (xs == ys)) w := by
  rw [run_eql_struct, eq32 xs ys hx hy]; rfl
def headA (A : Option Addr) (c : Nat) : Option Addr := if c = 0 then A else A.map (·.add 0)
theorem src_to {w : World} {A : Option Addr} {b : List UInt8} (c : Nat) (h : BSrc w A c b) (hi : Nat) (h1 : hi ≤ b.length) (h2 : b.length ≤ c) :
    BSrc w (headA A c) c (b.take hi) ∧ ∀ wx, (Instr.slice 22 (.slice A b.length c) none (some (.int .i64 (hi : Int))) none).run Try.prog wx = .ok (.slice (headA A c) hi c) wx := by
  unfold headA
  refine ⟨⟨by simp [bcells], ?_, ?_⟩, fun wx => ?_⟩
  · intro hn
    rcases A with _ | ad
    · obtain ⟨h3, h4⟩ := h.none rfl
      simp
      omega
    · split at hn <;> cases hn
  · rintro ad had j u hu
    have hlt : j < hi := by
      rcases Nat.lt_or_ge j hi with h5 | h5
      · exact h5
      · rw [List.getElem?_eq_none (by rw [bcells_length, List.length_take]; omega)] at hu; cases hu
    have hu' : (bcells b)[j]? = some u := by
      rw [← hu]
      simp [bcells, hlt]
    rcases A with _ | a0
    · split at had <;> cases had
    · rw [if_neg (by omega), Option.map_some] at had
      injection had with had
      subst had
      obtain ⟨b', off, rfl⟩ : ∃ b' off, a0 = ⟨b', off, none⟩ := by
        obtain ⟨b', off, e, _⟩ := h.at_ j (by omega)
        injection e with e
        exact ⟨b', off, e⟩
      rw [add_plain, Nat.add_zero]
      exact h.some _ rfl j u hu'
  · have hsz : (sizeOf (Try.prog.elem 22)).run Try.prog wx = .ok 1 wx := by
      have e : Try.prog.elem 22 = 5 := by kernel_rfl
      rw [e, size_of_u8]
    rw [run_slice_h (P := Try.prog) wx _ A b.length c (by kernel_rfl) _ _ (by omega) (by omega), hsz]
    simp only [Result.andThen, Int.toNat_natCast, sliced, Nat.sub_zero, Nat.zero_mul]
/-- what is spoiled behind a head leaves the head -/
theorem spoil_rest {W : World} {base : Nat} {A : Option Addr} {c : Nat} {b more : List UInt8} (HO : W.ownsRow base 5 1 (.slice A (b.length + more.length) c) (b.length + more.length) (bcells (b ++ more))) (hn : b.length + more.length ≤ 140737488351232) :
    b.length + more.length ≤ c ∧ c ≤ 9223372036854775807 ∧ ∃ A3, (∀ wx, (Instr.slice 22 (.slice A (b.length + more.length) c) (some (.int .i64 (b.length : Int))) none none).run Try.prog wx = .ok (.slice A3 more.length (c - b.length)) wx) ∧
      ∀ W1 A1, Below W.heap.size W W1 → BSrc W1 A1 c b → (∀ ad, A1 = some ad → ∀ g, A = some ⟨g, 0, none⟩ → 0 < b.length → ad = ⟨g, 0, none⟩) → Calls Try.prog 23 #[.slice A3 more.length (c - b.length)] W1 fun e w' => (∃ r, e = .returned r) ∧ BSrc w' A1 c b ∧
        ∃ row, W1.grownBy w' row ∧ ∀ k, row = some k → base ≤ k ∧ k < W.heap.size := by
  have hcap : b.length + more.length ≤ c ∧ c ≤ 9223372036854775807 := by
    rcases HO.2 with ⟨hv, h0⟩ | ⟨g, cap, cur, hv, _, _, hn', hc', _⟩
    · injection hv with _ h1 h2; omega
    · injection hv with _ h1 h2; unfold maxLen at hc'; omega
  refine ⟨hcap.1, hcap.2, if c = b.length then A else A.map (·.add (b.length * 1)), fun wx => ?_, ?_⟩
  · have hsz : (sizeOf (Try.prog.elem 22)).run Try.prog wx = .ok 1 wx := by
      have e : Try.prog.elem 22 = 5 := by kernel_rfl
      rw [e, size_of_u8]
    rw [run_slice_l (P := Try.prog) wx _ A (b.length + more.length) c (by kernel_rfl) _ _ (by omega) (by omega), hsz]
    simp only [Result.andThen, Int.toNat_natCast, sliced]
    rw [show b.length + more.length - b.length = more.length by omega]
  · intro W1 A1 hB hS hA1
    by_cases hcb : c = b.length
    · have hm0 : more.length = 0 := by omega
      have e0 : c - b.length = 0 := by omega
      rw [hm0, e0]
      refine (wspoil_empty _ W1).mono ?_
      rintro e w' ⟨hr, hg⟩
      exact ⟨hr, hS.below (below_of_grown hg (Nat.le_refl _) (fun g h => by cases h)) (Nat.le_refl _), none, hg, fun k h => by cases h⟩
    · rw [if_neg hcb]
      rcases HO.2 with ⟨hv, h0⟩ | ⟨g, cap, cur, hv, hbg, hh, hn', hc', hcs, htake⟩
      · injection hv with _ h1 h2
        omega
      · injection hv with hv1 hv2 hv3
        subst hv1 hv3
        rw [Option.map_some, add_plain, Nat.zero_add, Nat.mul_one]
        have hgl : g < W.heap.size := (Array.getElem?_eq_some_iff.1 hh).1
        have hcell : ∀ (j : Nat) (u : Value), (bcells (b ++ more))[j]? = some u → cur[j]? = some u := by
          intro j u hu
          rw [← htake, List.getElem?_take] at hu
          split at hu
          · simpa using hu
          · cases hu
        refine (wspoil_tail g b.length (c - b.length) cur more W1 ((hB.block g hgl).trans hh) (by omega) (by omega) ?_ (by omega) (by omega)).mono ?_
        · intro j hj
          refine hcell _ _ ?_
          rw [bcells_append, List.getElem?_append_right (by rw [bcells_length]; omega), bcells_length, show b.length + j - b.length = j by omega]
          exact bcells_at more j hj
        · rintro e w' ⟨hr, hg, cur', hh', hsz', hlow⟩
          refine ⟨hr, ⟨hS.len, hS.none, ?_⟩, some g, hg, fun k h => by injection h with h; subst h; exact ⟨hbg, hgl⟩⟩
          intro ad had j u hu
          have hj : j < b.length := by
            rcases Nat.lt_or_ge j b.length with h1 | h1
            · exact h1
            · rw [List.getElem?_eq_none (by rw [bcells_length]; exact h1)] at hu; cases hu
          have := hA1 ad had g rfl (by omega)
          subst this
          rw [add_at, cell_of_row w' g j _ _ (0, 0) hh', hlow j hj]
          refine hcell j u ?_
          rw [bcells_append, List.getElem?_append_left (by rw [bcells_length]; exact hj)]
          exact hu
theorem apart_parts {W : World} {base : Nat} {A : Option Addr} {c : Nat} {b more : List UInt8} (HO : W.ownsRow base 5 1 (.slice A (b.length + more.length) c) (b.length + more.length) (bcells (b ++ more))) (hn : b.length + more.length ≤ 140737488351232) :
    b.length ≤ c ∧ c ≤ 9223372036854775807 ∧ ∃ A1 A3, (∀ wx, (Instr.slice 22 (.slice A (b.length + more.length) c) none (some (.int .i64 (b.length : Int))) none).run Try.prog wx = .ok (.slice A1 b.length c) wx) ∧
      (∀ wx, (Instr.slice 22 (.slice A (b.length + more.length) c) (some (.int .i64 (b.length : Int))) none none).run Try.prog wx = .ok (.slice A3 more.length (c - b.length)) wx) ∧ BSrc W A1 c b ∧
      ∀ W1, Below W.heap.size W W1 → Calls Try.prog 23 #[.slice A3 more.length (c - b.length)] W1 fun e w' => (∃ r, e = .returned r) ∧ BSrc w' A1 c b ∧
        ∃ row, W1.grownBy w' row ∧ ∀ k, row = some k → base ≤ k ∧ k < W.heap.size := by
  obtain ⟨h1, h2, A3, h3, h4⟩ := spoil_rest HO hn
  have hsrc : BSrc W A c (b ++ more) := by
    have := Src.of_own HO
    rw [← List.length_append] at this
    exact this
  obtain ⟨h5, h6⟩ := src_to c hsrc b.length (by simp) (by simp; omega)
  rw [List.take_left] at h5
  rw [List.length_append] at h6
  refine ⟨by omega, h2, headA A c, A3, h6, h3, h5, fun W1 hB => h4 W1 _ hB (h5.below hB (Nat.le_refl _)) ?_⟩
  intro ad had g hg hpos
  subst hg
  unfold headA at had
  rw [if_neg (by omega), Option.map_some] at had
  injection had with had
  rw [← had, add_plain]
theorem open_bytes_cap {H : Type} {enc : TypeId × Value → H} {w : World} {b0 : Nat} {held : Bool} {r : Reach} {v : Value} {d : DataW H} {p : List MemPlace}
    (hv : Value.okWide Try.prog w r b0 22 v) (h : DataW.Trod enc Try.prog w 0 (fun _ => true) held 22 v d p) (hsz : ∀ n ∈ d.weights Try.prog 22, n ≤ reachBytes) :
    ∃ (A : Option Addr) (c : Nat) (bs : List UInt8), v = .slice A bs.length c ∧ (BSrc w A c bs ∧ bs.length ≤ c ∧ c ≤ 140737488351232) := by
  obtain ⟨A, c, bs, hv1, hb, hl⟩ := open_bytes hv h hsz
  refine ⟨A, c, bs, hv1, hb, ?_⟩
  subst hv1
  obtain ⟨fuel, hf⟩ := h
  rcases open_ints Try.underlying22 Try.underlying5 (by kernel_rfl) hf with ⟨hcs, _⟩ | ⟨x, l, c', zs, hcs, _, hl, hm, hz, hd, hcell, hwz⟩
  · simp [Value.cells] at hcs
    obtain ⟨rfl, rfl, rfl⟩ := hcs
    simp
  · simp only [Value.cells, List.cons.injEq, Value.slice.injEq, and_true] at hcs
    obtain ⟨rfl, rfl, rfl⟩ := hcs
    simp only [if_true] at hz
    simp only [Prod.mk.injEq] at hd
    obtain ⟨rfl, _⟩ := hd
    have hw := hsz (((zs.take bs.length).length + (zs.drop bs.length).length) * Try.prog.bytesOf 5) (by simp [DataW.weights, Try.underlying22, lits])
    rw [bytesOfByte] at hw
    simp only [List.length_take, List.length_drop, reachBytes] at hw
    omega
end Go.Proofs.Ytofjfpnkdcpngaa
