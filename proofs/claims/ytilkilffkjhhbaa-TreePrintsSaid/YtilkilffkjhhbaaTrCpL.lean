/-
  Expressions in a row: their cells, and where their parts lie.
-/
import Derived.Test.YtilkilffkjhhbaaTrPse
import Derived.Maps.AppendAt
namespace Go.Proofs.Ytilkilffkjhhbaa
set_option maxRecDepth 20000
set_option linter.unusedVariables false
open Go.RowKit Tr Mem

def exCells (x : Ex) (A : Option Addr) (c : Nat) : List Value := [.int .i64 x.kind, .int .i32 x.n, .string ⟨x.name.toArray⟩, .slice A x.sub.length c]
theorem exCells_one (x : Ex) (A : Option Addr) (c : Nat) : ∀ u ∈ exCells x A c, u.oneCell' = true := by intro u hu; simp [exCells] at hu; rcases hu with rfl | rfl | rfl | rfl <;> rfl
theorem infoExp : (Try.prog.info? 43).map (fun i => (i.zero, i.size, i.bytes)) = some (some (.agg #[.int .i64 0, .int .i32 0, .string ⟨#[]⟩, .slice none 0 0]), 4, 56) := by kernel_rfl
theorem fill_ex (x : Ex) (A : Option Addr) (c : Nat) : Instr.fill (fun i => some (i * 4, 4)) ((Array.range (1 * 4)).map ((Value.agg #[.int .i64 0, .int .i32 0, .string ⟨#[]⟩, .slice none 0 0]).cells[· % (Value.agg #[.int .i64 0, .int .i32 0, .string ⟨#[]⟩, .slice none 0 0]).cells.size]!)) [(0, exAgg x A c)] = some (exCells x A c).toArray := by
  first | kernel_rfl | simp [Instr.fill, exAgg, exCells, Value.cells] | (simp [Instr.fill, exAgg, exCells, Value.cells]; rfl)
/-- the cells are those of expressions, of which the parts lie in blocks K -/
def SubIn (w : World) (K : Nat → Prop) : List Ex → List Value → Prop
  | [], xs => xs = []
  | x :: r, xs => ∃ A c ys, xs = exCells x A c ++ ys ∧ At w K x A ∧ SubIn w K r ys
theorem SubIn.same {w w' : World} {K : Nat → Prop} (hs : ∀ b, K b → b < w.heap.size → w'.heap[b]? = w.heap[b]?) : ∀ {l : List Ex} {xs : List Value}, SubIn w K l xs → SubIn w' K l xs
  | [], _, h => h
  | _ :: _, _, ⟨A, c, ys, e, h1, h2⟩ => ⟨A, c, ys, e, h1.same hs, h2.same hs⟩
theorem SubIn.base {w : World} {K K' : Nat → Prop} (hB : ∀ b, K b → b < w.heap.size → K' b) : ∀ {l : List Ex} {xs : List Value}, SubIn w K l xs → SubIn w K' l xs
  | [], _, h => h
  | _ :: _, _, ⟨A, c, ys, e, h1, h2⟩ => ⟨A, c, ys, e, h1.base hB, h2.base hB⟩
theorem SubIn.below {w w' : World} {K : Nat → Prop} {l : List Ex} {xs : List Value} (h : SubIn w K l xs) (hb : Below w.heap.size w w') : SubIn w' K l xs := h.same fun b _ hlt => hb.block b hlt
/-- kept where the blocks that are there are kept, and others then -/
theorem SubIn.move {w w' : World} {K K' : Nat → Prop} {l : List Ex} {xs : List Value} (h : SubIn w K l xs) (hs : ∀ b, K b → b < w.heap.size → w'.heap[b]? = w.heap[b]?) (hB : ∀ b, K b → b < w.heap.size → K' b) : SubIn w' K' l xs :=
  ((h.base (K' := fun b => K b ∧ b < w.heap.size) (fun b hb hlt => ⟨hb, hlt⟩)).same (fun b hb hlt => hs b hb.1 hlt)).base (fun b hb _ => hB b hb.1 hb.2)
theorem At.move {w w' : World} {K K' : Nat → Prop} {x : Ex} {A : Option Addr} (h : At w K x A) (hs : ∀ b, K b → b < w.heap.size → w'.heap[b]? = w.heap[b]?) (hB : ∀ b, K b → b < w.heap.size → K' b) : At w' K' x A :=
  ((h.base (B' := fun b => K b ∧ b < w.heap.size) (fun b hb hlt => ⟨hb, hlt⟩)).same (fun b hb hlt => hs b hb.1 hlt)).base (fun b hb _ => hB b hb.1 hb.2)
theorem SubIn.snoc {w : World} {K : Nat → Prop} {x : Ex} {A : Option Addr} {c : Nat} (h1 : At w K x A) : ∀ {l : List Ex} {xs : List Value}, SubIn w K l xs → SubIn w K (l ++ [x]) (xs ++ exCells x A c)
  | [], _, h => by
    have e : _ = [] := h
    subst e
    exact ⟨A, c, [], by simp, h1, rfl⟩
  | _ :: _, _, ⟨A', c', ys, e, g1, g2⟩ => ⟨A', c', ys ++ exCells x A c, by rw [e, List.append_assoc], g1, g2.snoc h1⟩
theorem atL_cells {w : World} {K : Nat → Prop} {b : Nat} (hK : K b) : ∀ (l : List Ex) (xs : List Value) (off : Nat), SubIn w K l xs → (∀ (j : Nat) (u : Value), xs[j]? = some u → w.cell? ⟨b, off + j, none⟩ = some u) → AtL w K l (some ⟨b, off, none⟩)
  | [], _, _, _, _ => atL_nil _ _ _
  | x :: r, _, off, ⟨A, c, ys, e, h1, h2⟩, hc => by
    subst e
    rw [atL_cons]
    refine ⟨⟨b, off, rfl, hK, hc 0 _ rfl, hc 1 _ rfl, hc 2 _ rfl, A, c, hc 3 _ rfl, h1⟩, ?_⟩
    refine atL_cells hK r ys (off + 4) h2 fun j u hu => ?_
    have := hc (4 + j) u (by rw [List.getElem?_append_right (by simp [exCells])]; simpa [exCells] using hu)
    rw [← Nat.add_assoc] at this
    exact this
theorem atL_own {w : World} {K : Nat → Prop} {base c : Nat} {A : Option Addr} {l : List Ex} {xs : List Value} {e : TypeId} (h : w.ownsRow base e 4 (.slice A l.length c) l.length xs) (hi : SubIn w K l xs) (hK : ∀ b, (Value.slice A l.length c).ownBlock = some b → K b) : AtL w K l A := by
  rcases h.2 with ⟨hv, -⟩ | ⟨g, cap, cur, hv, -, hh, -, -, -, hcur⟩
  · simp only [Value.slice.injEq] at hv
    obtain rfl : l = [] := List.eq_nil_of_length_eq_zero hv.2.1
    exact atL_nil _ _ _
  · injection hv with e1 e2 e3
    subst e1
    refine atL_cells (hK g rfl) l xs 0 hi fun j u hu => ?_
    have hcell := cell_of_row w g (0 + j) _ _ _ hh
    have hi' : cur[j]? = some u := by
      rw [← hcur, List.getElem?_take] at hu
      split at hu
      · simpa using hu
      · cases hu
    rw [hcell, Nat.zero_add]
    simpa using hi'
theorem wp_append_own_at {P : Program} {w : World} {o : Oper} {a : Act} {K : Act → World → Prop} {Q : Exit → Act → World → Prop} (s x : Operand) (t : TypeId)
    (ho : o.op = .call { callee := .builtin .append, args := #[s, x], argTypes := #[t, t] })
    (base : Nat) (e : TypeId) (i : TypeInfo) (z : Value) (size bytes : Nat) (ht : P.underlying t = some (.slice e)) (hi : P.info? e = some i) (hz : i.zero = some z)
    (hsize : i.size = size) (hby : i.bytes = bytes) (hzs : z.cells.size = size) (hsz : 0 < size)
    (v : Value) (n : Nat) (xs : List Value) (hs : a.eval s = v) (hown : w.ownsRow base e size v n xs)
    (ad : Addr) (m c : Nat) (news : List Value) (hx : a.eval x = .slice (some ad) m c) (hl : news.length = m * size) (hnews : ∀ j u, news[j]? = some u → w.cell? (ad.add j) = some u) (h1 : ∀ u ∈ news, u.oneCell' = true)
    (h63 : n + m ≤ maxLen) (hbytes : (n + m) * bytes ≤ 140737488355328) (hbase : base ≤ w.heap.size)
    (h : ∀ v' w', w'.ownsRow base e size v' (n + m) (xs ++ news) → w.grownBy w' v.ownBlock → (v'.ownBlock = v.ownBlock ∨ v'.ownBlock = some w.heap.size) → K (a.put o.dst v') w') : o.wp P a w K Q := by
  obtain ⟨v', w', hr, h2, h3, _, h5⟩ := run_append_own_at (P := P) w base t o.type e i z size bytes ht hi hz hsize hby hzs hsz v n xs hown ad m c news hl hnews h1 h63 hbytes hbase
  unfold Oper.wp execOp
  simp only [ho, resolve, invoke, builtin, Sem.run_bind, Sem.run_pure, Result.andThen_ok, List.map_toArray, List.map_cons, List.map_nil, hs, hx, hr]
  exact h v' w' h2 h3 h5
end Go.Proofs.Ytilkilffkjhhbaa
