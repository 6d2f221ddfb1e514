/-
  Instructions in memory: their cells, slices of them, what they read as; the reference's Same, Lent and Spoil.
-/
import Derived.Test.YtlfbpcjeohbfkaaIsaB
namespace Go.Proofs.Ytlfbpcjeohbfkaa
open Go.RowKit Mem

def insCells : List Ia.Ins → List Value
  | [] => []
  | i :: r => .int .i64 i.op :: .int .i32 i.n :: insCells r
theorem insCells_length : ∀ l : List Ia.Ins, (insCells l).length = l.length * 2
  | [] => rfl
  | _ :: r => by simp only [insCells, List.length_cons, insCells_length r]; omega
theorem insCells_append : ∀ a b : List Ia.Ins, insCells (a ++ b) = insCells a ++ insCells b
  | [], _ => rfl
  | _ :: r, b => by simp only [List.cons_append, insCells, insCells_append r b]
theorem insCells_one : ∀ (l : List Ia.Ins), ∀ v ∈ insCells l, v.oneCell' = true
  | [], v, h => by simp [insCells] at h
  | i :: r, v, h => by
    simp only [insCells, List.mem_cons] at h
    rcases h with rfl | rfl | h
    · rfl
    · rfl
    · exact insCells_one r v h
theorem insCells_at : ∀ (l : List Ia.Ins) (k : Nat) (h : k < l.length), (insCells l)[k * 2]? = some (.int .i64 (l[k]'h).op) ∧ (insCells l)[k * 2 + 1]? = some (.int .i32 (l[k]'h).n)
  | [], k, h => by simp at h
  | i :: r, 0, h => ⟨rfl, rfl⟩
  | i :: r, k + 1, h => by
    have := insCells_at r k (by simpa using h)
    have e1 : (k + 1) * 2 = k * 2 + 1 + 1 := by omega
    rw [e1]
    simpa [insCells] using this
def insAgg (i : Ia.Ins) : Value := .agg #[.int .i64 i.op, .int .i32 i.n]
theorem infoIns : (Try.prog.info? 40).map (fun i => (i.zero, i.size, i.bytes)) = some (some (.agg #[.int .i64 0, .int .i32 0]), 2, 16) := by kernel_rfl
def InsAt (w : World) (A : Option Addr) (l : List Ia.Ins) : Prop := ∀ k (h : k < l.length), ∃ b off, A = some ⟨b, off, none⟩ ∧
  w.cell? ⟨b, off + k * 2, none⟩ = some (.int .i64 (l[k]'h).op) ∧ w.cell? ⟨b, off + k * 2 + 1, none⟩ = some (.int .i32 (l[k]'h).n)
abbrev ISrc (w : World) (A : Option Addr) (c : Nat) (l : List Ia.Ins) : Prop := Src w A l.length c (insCells l) 2
theorem ISrc.at_ {w : World} {A : Option Addr} {c : Nat} {l : List Ia.Ins} (h : ISrc w A c l) : InsAt w A l := by
  intro k hk
  rcases A with _ | ad
  · have := (h.none rfl).1; omega
  · have c0 := h.some ad rfl _ _ (insCells_at l k hk).1
    have c1 := h.some ad rfl _ _ (insCells_at l k hk).2
    obtain ⟨b, off, sp⟩ := ad
    have hsp : sp = none := by
      have h0 : ((⟨b, off, sp⟩ : Addr).add (0 * 2)).spot = none := World.cell?_spot (h.some _ rfl _ _ (insCells_at l 0 (by omega)).1)
      simpa [Addr.add] using h0
    subst hsp
    rw [add_plain] at c0 c1
    exact ⟨b, off, rfl, c0, by rw [← Nat.add_assoc] at c1; exact c1⟩
theorem InsAt.below {w w' : World} {A : Option Addr} {l : List Ia.Ins} {B : Nat} (h : InsAt w A l) (hb : Below B w w') (hB : w.heap.size ≤ B) : InsAt w' A l := by
  intro k hk
  obtain ⟨b, off, rfl, h0, h1⟩ := h k hk
  have hlt := World.block_lt_of_cell? _ _ h0
  exact ⟨b, off, rfl, (hb.cell (p := ⟨b, off + k * 2, none⟩) (Nat.lt_of_lt_of_le hlt hB)).trans h0, (hb.cell (p := ⟨b, off + k * 2 + 1, none⟩) (Nat.lt_of_lt_of_le hlt hB)).trans h1⟩
theorem InsAt.of_own {w : World} {base c : Nat} {A : Option Addr} {l : List Ia.Ins} {e : TypeId} (h : w.ownsRow base e 2 (.slice A l.length c) l.length (insCells l)) : InsAt w A l := ISrc.at_ (Src.of_own h)
theorem InsAt.drewN {w : World} {A : Option Addr} {l : List Ia.Ins} (h : InsAt w A l) (n : Nat) : InsAt (w.drewN n) A l := h
set_option maxHeartbeats 4000000 in
theorem insame (l : List Ia.Ins) (A A' : Option Addr) (c c' : Nat) (w : World) (hA : InsAt w A l) (hA' : InsAt w A' l) (hn : l.length ≤ 4611686018427387904) :
    Calls Try.prog 14 #[.slice A l.length c, .slice A' l.length c'] w fun e w' => e = .returned (.bool true) ∧ ∃ n, w' = w.drewN n := by
  have HA := Lib.hid hA
  have HA' := Lib.hid hA'
  clear hA hA'
  have hne : ((l.length : Int) != l.length) = false := by simp
  go_enter Try.func14, Try.ntmps14
  go_wp2_with fail
  clear hne
  go_loopw [5] (fun i wr => ∃ (k n : Nat), k ≤ l.length ∧ i = .int .i64 k ∧ wr = w.drewN n) (fun i _ => l.length - (intOf i).toNat)
  case atStart => exact ⟨0, 0, Nat.zero_le _, rfl, rfl⟩
  case round =>
    obtain ⟨k, n, hk, rfl, rfl⟩ := hrel
    by_cases hlt : k < l.length
    · obtain ⟨b, off, rfl, c0, c1⟩ := HA.out k hlt
      obtain ⟨b', off', rfl, d0, d1⟩ := HA'.out k hlt
      have hr0 : (0 : Int) ≤ k := by omega
      have hr1 : (k : Int) < (l.length : Int) := by omega
      go_wp2_with fail
      go_quiet (fail)
      go_wp2_with fail
      go_roundw
      case rel => exact ⟨k + 1, _, by omega, by go_num, rfl⟩
      case measure => simp [intOf]; omega
    · obtain rfl : k = l.length := by omega
      go_wp2_with fail
      go_ret
      exact ⟨rfl, _, rfl⟩
set_option maxHeartbeats 4000000 in
theorem inlent (l : List Ia.Ins) (A : Option Addr) (c : Nat) (w : World) (hA : ISrc w A c l) (hn : l.length ≤ 1000000) :
    Calls Try.prog 9 #[.slice A l.length c] w fun e w' => ∃ v, e = .returned v ∧ w'.ownsRow w.heap.size 40 2 v l.length (insCells l) ∧ Below w.heap.size w w' := by
  have HA := Lib.hid hA
  clear hA
  obtain ⟨i0, hi, hi0, hi1, hi2⟩ := info_parts infoIns
  go_enter Try.func9, Try.ntmps9
  go_wp2_with (at_builtin; refine wpList_app_any rfl (.tmp 4) (.tmp 5) 22 rfl w.heap.size 40 i0 (.agg #[.int .i64 0, .int .i32 0]) 2 16 Try.underlying22 hi hi0 hi1 hi2 rfl (by decide) (.slice none 0 0) 0 [] rfl (World.ownsRow_nil _ _ _ _) A l.length c (insCells l) rfl HA.out (insCells_one l) ?c3 ?c4 (Nat.le_refl _) ?_)
  case c3 => unfold maxLen; omega
  case c4 => omega
  intro v1 w1 hown1 hg1
  have HB1 : Hid (Below w.heap.size w w1) := (Below.refl _ _).grown hg1 (Nat.le_refl _) (by simp [Value.ownBlock])
  try simp only [Nat.zero_add, List.nil_append] at hown1
  have HO1 := Lib.hid hown1
  clear hown1 hg1
  go_wp2_with fail
  go_ret
  exact ⟨_, rfl, HO1.out, HB1.out⟩
end Go.Proofs.Ytlfbpcjeohbfkaa
