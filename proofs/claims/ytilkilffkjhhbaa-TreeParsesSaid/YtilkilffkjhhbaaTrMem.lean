/-
  How an expression lies in memory, and what keeps it there.
-/
import Derived.Test.YtilkilffkjhhbaaTrPl
import Derived.Test.YtilkilffkjhhbaaMem
import Derived.Test.YtilkilffkjhhbaaLex1
namespace Go.Proofs.Ytilkilffkjhhbaa
set_option maxRecDepth 20000
set_option linter.unusedVariables false
open Go.RowKit Tr

/-- an expression's own cells, of which the parts lie from A on -/
def exAgg (x : Ex) (A : Option Addr) (c : Nat) : Value := .agg #[.int .i64 x.kind, .int .i32 x.n, .string ⟨x.name.toArray⟩, .slice A x.sub.length c]
mutual
/-- the parts of an expression lie from A on, in blocks from B on -/
def At (w : World) (B : Nat → Prop) : Ex → Option Addr → Prop
  | .mk _ _ _ s, A => AtL w B s A
def AtL (w : World) (B : Nat → Prop) : List Ex → Option Addr → Prop
  | [], _ => True
  | x :: r, A => (∃ b off, A = some ⟨b, off, none⟩ ∧ B b ∧ w.cell? ⟨b, off, none⟩ = some (.int .i64 x.kind) ∧ w.cell? ⟨b, off + 1, none⟩ = some (.int .i32 x.n) ∧
      w.cell? ⟨b, off + 2, none⟩ = some (.string ⟨x.name.toArray⟩) ∧ ∃ A' c', w.cell? ⟨b, off + 3, none⟩ = some (.slice A' x.sub.length c') ∧ At w B x A') ∧ AtL w B r (A.map fun a => ⟨a.block, a.off + 4, none⟩)
end
theorem at_eq (w : World) (B : Nat → Prop) (k n : Int) (m : Lx.Bs) (s : List Ex) (A : Option Addr) : At w B (.mk k n m s) A = AtL w B s A := by rw [At]
theorem at_sub (w : World) (B : Nat → Prop) (x : Ex) (A : Option Addr) : At w B x A = AtL w B x.sub A := by obtain ⟨k, n, m, s⟩ := x; rw [At]; rfl
theorem atL_nil (w : World) (B : Nat → Prop) (A : Option Addr) : AtL w B [] A := by rw [AtL]; trivial
theorem atL_cons (w : World) (B : Nat → Prop) (x : Ex) (r : List Ex) (A : Option Addr) : AtL w B (x :: r) A = ((∃ b off, A = some ⟨b, off, none⟩ ∧ B b ∧ w.cell? ⟨b, off, none⟩ = some (.int .i64 x.kind) ∧ w.cell? ⟨b, off + 1, none⟩ = some (.int .i32 x.n) ∧
      w.cell? ⟨b, off + 2, none⟩ = some (.string ⟨x.name.toArray⟩) ∧ ∃ A' c', w.cell? ⟨b, off + 3, none⟩ = some (.slice A' x.sub.length c') ∧ At w B x A') ∧ AtL w B r (A.map fun a => ⟨a.block, a.off + 4, none⟩)) := by rw [AtL]
theorem AtL.get {w : World} {B : Nat → Prop} : ∀ {s : List Ex} {A : Option Addr}, AtL w B s A → ∀ i (h : i < s.length), ∃ b off, A = some ⟨b, off, none⟩ ∧ B b ∧ w.cell? ⟨b, off + i * 4, none⟩ = some (.int .i64 (s[i]'h).kind) ∧
      w.cell? ⟨b, off + i * 4 + 1, none⟩ = some (.int .i32 (s[i]'h).n) ∧ w.cell? ⟨b, off + i * 4 + 2, none⟩ = some (.string ⟨(s[i]'h).name.toArray⟩) ∧ ∃ A' c', w.cell? ⟨b, off + i * 4 + 3, none⟩ = some (.slice A' (s[i]'h).sub.length c') ∧ At w B (s[i]'h) A' := by
  intro s
  induction s with
  | nil => intro A _ i h; simp at h
  | cons x r ih =>
    intro A hA i h
    rw [atL_cons] at hA
    obtain ⟨⟨b, off, rfl, hB, h0, h1, h2, A', c', h3, h4⟩, hr⟩ := hA
    cases i with
    | zero => exact ⟨b, off, rfl, hB, by simpa using h0, by simpa using h1, by simpa using h2, A', c', by simpa using h3, h4⟩
    | succ i =>
      obtain ⟨b', off', e, hB', g0, g1, g2, A2, c2, g3, g4⟩ := ih hr i (by simpa using h)
      simp only [Option.map_some, Option.some.injEq, Addr.mk.injEq, and_true] at e
      obtain ⟨rfl, rfl⟩ := e
      have ea : off + (i + 1) * 4 = off + 4 + i * 4 := by omega
      refine ⟨b, off, rfl, hB, ?_, ?_, ?_, A2, c2, ?_, ?_⟩
      · rw [ea]; simpa using g0
      · rw [ea]; simpa using g1
      · rw [ea]; simpa using g2
      · rw [ea]; simpa using g3
      · simpa using g4
/-- an expression is kept where the blocks from B on are kept -/
theorem at_same {w w' : World} {B : Nat → Prop} (hs : ∀ b, B b → b < w.heap.size → w'.heap[b]? = w.heap[b]?) : ∀ (x : Ex) (A : Option Addr), At w B x A → At w' B x A := by
  have hc : ∀ b o v, B b → w.cell? ⟨b, o, none⟩ = some v → w'.cell? ⟨b, o, none⟩ = some v := fun b o v hB h => (World.cell?_of_block (w := w) (a := ⟨b, o, none⟩) (hs b hB (World.block_lt_of_cell? _ _ h))).trans h
  refine Ex.ind ?_
  intro k n m s ih A
  rw [at_eq, at_eq]
  clear k n m
  induction s generalizing A with
  | nil => intro _; exact atL_nil _ _ _
  | cons x r ihr =>
    rw [atL_cons, atL_cons]
    rintro ⟨⟨b, off, rfl, hB, h0, h1, h2, A', c', h3, h4⟩, hr⟩
    exact ⟨⟨b, off, rfl, hB, hc _ _ _ hB h0, hc _ _ _ hB h1, hc _ _ _ hB h2, A', c', hc _ _ _ hB h3, ih x (by simp) A' h4⟩, ihr (fun y hy => ih y (by simp [hy])) _ hr⟩
theorem At.same {w w' : World} {B : Nat → Prop} {x : Ex} {A : Option Addr} (h : At w B x A) (hs : ∀ b, B b → b < w.heap.size → w'.heap[b]? = w.heap[b]?) : At w' B x A := at_same hs x A h
theorem At.below {w w' : World} {B : Nat → Prop} {B' : Nat} {x : Ex} {A : Option Addr} (h : At w B x A) (hb : Below B' w w') (hB : w.heap.size ≤ B') : At w' B x A := h.same fun b _ hlt => hb.block b (Nat.lt_of_lt_of_le hlt hB)
theorem At.grown {w w' : World} {B : Nat → Prop} {g : Nat} {x : Ex} {A : Option Addr} (h : At w B x A) (hg : w.grownBy w' (some g)) (hB : ¬ B g) : At w' B x A := h.same fun b hb hlt => hg.block b hlt (fun e => by injection e with e; subst e; exact hB hb)
/-- the blocks are others too, and blocks that are there -/
theorem At.base {w : World} {B B' : Nat → Prop} (hB : ∀ b, B b → b < w.heap.size → B' b) : ∀ (x : Ex) (A : Option Addr), At w B x A → At w B' x A := by
  refine Ex.ind ?_
  intro k n m s ih A
  rw [at_eq, at_eq]
  clear k n m
  induction s generalizing A with
  | nil => intro _; exact atL_nil _ _ _
  | cons x r ihr =>
    rw [atL_cons, atL_cons]
    rintro ⟨⟨b, off, rfl, hB', h0, h1, h2, A', c', h3, h4⟩, hr⟩
    exact ⟨⟨b, off, rfl, hB b hB' (World.block_lt_of_cell? _ _ h0), h0, h1, h2, A', c', h3, ih x (by simp) A' h4⟩, ihr (fun y hy => ih y (by simp [hy])) _ hr⟩
theorem AtL.in_ {w wr : World} {B : Nat → Prop} {s : List Ex} {A : Option Addr} (h : AtL w B s A) (hb : Below w.heap.size w wr) (i : Nat) (hi : i < s.length) : ∃ b off A' c', A = some ⟨b, off, none⟩ ∧ b < w.heap.size ∧ wr.cell? ⟨b, off + i * 4, none⟩ = some (.int .i64 (s[i]'hi).kind) ∧
      wr.cell? ⟨b, off + i * 4 + 1, none⟩ = some (.int .i32 (s[i]'hi).n) ∧ wr.cell? ⟨b, off + i * 4 + 2, none⟩ = some (.string ⟨(s[i]'hi).name.toArray⟩) ∧ wr.cell? ⟨b, off + i * 4 + 3, none⟩ = some (.slice A' (s[i]'hi).sub.length c') ∧ At wr B (s[i]'hi) A' := by
  obtain ⟨b, off, rfl, -, c0, c1, c2, A', c', c3, hx⟩ := h.get i hi
  have hbl := World.block_lt_of_cell? _ _ c0
  simp only at hbl
  exact ⟨b, off, A', c', rfl, hbl, (hb.cell (p := ⟨b, off + i * 4, none⟩) hbl).trans c0, (hb.cell (p := ⟨b, off + i * 4 + 1, none⟩) hbl).trans c1, (hb.cell (p := ⟨b, off + i * 4 + 2, none⟩) hbl).trans c2, (hb.cell (p := ⟨b, off + i * 4 + 3, none⟩) hbl).trans c3, hx.below hb (Nat.le_refl _)⟩
mutual
/-- the numbers and lengths are those of Go -/
def Fit : Ex → Prop
  | .mk _ n m s => (-2147483648 ≤ n ∧ n ≤ 2147483647) ∧ m.length ≤ maxLen ∧ s.length ≤ maxLen ∧ FitL s
def FitL : List Ex → Prop
  | [] => True
  | x :: r => Fit x ∧ FitL r
end
theorem fit_eq (k n : Int) (m : Lx.Bs) (s : List Ex) : Fit (.mk k n m s) = ((-2147483648 ≤ n ∧ n ≤ 2147483647) ∧ m.length ≤ maxLen ∧ s.length ≤ maxLen ∧ FitL s) := by rw [Fit]
theorem fitL_nil : FitL [] := by rw [FitL]; trivial
theorem fitL_cons (x : Ex) (r : List Ex) : FitL (x :: r) = (Fit x ∧ FitL r) := by rw [FitL]
theorem FitL.mem {x : Ex} : ∀ {s : List Ex}, FitL s → x ∈ s → Fit x
  | [], _, h => by cases h
  | y :: r, h, hx => by
    rw [fitL_cons] at h
    rcases List.mem_cons.1 hx with rfl | hx
    · exact h.1
    · exact FitL.mem h.2 hx
theorem FitL.mk : ∀ {s : List Ex}, (∀ x ∈ s, Fit x) → FitL s
  | [], _ => fitL_nil
  | y :: r, h => by rw [fitL_cons]; exact ⟨h y (by simp), FitL.mk fun x hx => h x (by simp [hx])⟩
end Go.Proofs.Ytilkilffkjhhbaa
