/-
  No cell of these rows narrows 'for every input' (looked for: loops, veiled, ifaces, maps, wideKeys, modest, calm, conditions, laid).
  DERIVED. THE GIVEN ROWS OF THIS SEAT. 7 by the template 'for every input the law returns true; each argument reads behind the call as it read before'; 0 by the template 'total and deterministic' (their statements: YtefnmpococnepaaTotals.lean).
  GIVEN WITH THE SEED: the statements are not yours to turn. If you find one false, say at which input.
  Laid BY PROGRAM, IN A SANDBOX (cutbox-rows.mjs): the forced cells as the released guide's own fill.sh prints them over the translation f0b93810c718af24… (all of the seat's roots in one cut). By AI agents, Wed Nov 11 2026. No macro, syntax, notation, axiom, sorry.
-/
import Derived.Test.YtefnmpococnepaaChecked
import GoSem.Claim
import GoSem.ClaimJoined
import GoSem.ClaimMapViews
import Derived.JoinedTies
import Derived.KernelRfl
namespace Go.Proofs.Ytefnmpococnepaa
/- THE CELL 'sum', in the pinned program and in every row, IS THE sha256 OF THE DUMP (.gsa) THAT YtefnmpococnepaaProg.lean LOADS. Nothing in Lean hashes anything: it is a label: what it is worth is what the hold of that sum in a sandbox is worth. -/
noncomputable def Try.pinned : Pinned := { name := "ytefnmpococnepaa", sum := "f0b93810c718af246da99ba70d55dba282c2518069237e7a2a58a489e10799ff", checked := Try.checked }
namespace Rows
def none {H : Type} : Left H := { results := [], args := [] }

/-- 'midstreamlaw08.IsaReads': WHATEVER THE INPUT: true; the input reads as it did. -/
def isaReadsSpec : ChangeSpec := { name := "isaReads", fn := fun _ => fun
  | [d1, d2] => { results := [.lit (.bool true)], args := [d1, d2] }
  | _ => none }
def isaReadsRow : OpenClaim := { program := "ytefnmpococnepaa", sum := "f0b93810c718af246da99ba70d55dba282c2518069237e7a2a58a489e10799ff", func := "midstream/midstreamlaw08.IsaReads", spec := "isaReads", apart := false }
def IsaReadsSaid : Prop := isaReadsRow.holds Try.pinned (OpenSpec.ofChange isaReadsSpec)

/-- ITS FALSE NEIGHBOUR: 'it returns false'. Refute it at one input. -/
def isaReadsWrong : ChangeSpec := { name := "isaReads", fn := fun _ => fun
  | [d1, d2] => { results := [.lit (.bool false)], args := [d1, d2] }
  | _ => none }
def IsaReadsWrongFalsely : Prop := isaReadsRow.holds Try.pinned (OpenSpec.ofChange isaReadsWrong)

/-- 'midstreamlaw08.IsaDecodes': WHATEVER THE INPUT: true; the input reads as it did. -/
def isaDecodesSpec : ChangeSpec := { name := "isaDecodes", fn := fun _ => fun
  | [d] => { results := [.lit (.bool true)], args := [d] }
  | _ => none }
def isaDecodesRow : OpenClaim := { program := "ytefnmpococnepaa", sum := "f0b93810c718af246da99ba70d55dba282c2518069237e7a2a58a489e10799ff", func := "midstream/midstreamlaw08.IsaDecodes", spec := "isaDecodes", apart := false }
def IsaDecodesSaid : Prop := isaDecodesRow.holds Try.pinned (OpenSpec.ofChange isaDecodesSpec)

/-- ITS FALSE NEIGHBOUR: 'it returns false'. Refute it at one input. -/
def isaDecodesWrong : ChangeSpec := { name := "isaDecodes", fn := fun _ => fun
  | [d] => { results := [.lit (.bool false)], args := [d] }
  | _ => none }
def IsaDecodesWrongFalsely : Prop := isaDecodesRow.holds Try.pinned (OpenSpec.ofChange isaDecodesWrong)

/-- 'midstreamlaw08.IsaBytes': WHATEVER THE INPUT: true; the input reads as it did. -/
def isaBytesSpec : ChangeSpec := { name := "isaBytes", fn := fun _ => fun
  | [d] => { results := [.lit (.bool true)], args := [d] }
  | _ => none }
def isaBytesRow : OpenClaim := { program := "ytefnmpococnepaa", sum := "f0b93810c718af246da99ba70d55dba282c2518069237e7a2a58a489e10799ff", func := "midstream/midstreamlaw08.IsaBytes", spec := "isaBytes", apart := false }
def IsaBytesSaid : Prop := isaBytesRow.holds Try.pinned (OpenSpec.ofChange isaBytesSpec)

/-- ITS FALSE NEIGHBOUR: 'it returns false'. Refute it at one input. -/
def isaBytesWrong : ChangeSpec := { name := "isaBytes", fn := fun _ => fun
  | [d] => { results := [.lit (.bool false)], args := [d] }
  | _ => none }
def IsaBytesWrongFalsely : Prop := isaBytesRow.holds Try.pinned (OpenSpec.ofChange isaBytesWrong)

/-- 'midstreamlaw08.IsaCodes': WHATEVER THE INPUT: true; the input reads as it did. -/
def isaCodesSpec : ChangeSpec := { name := "isaCodes", fn := fun _ => fun
  | [d] => { results := [.lit (.bool true)], args := [d] }
  | _ => none }
def isaCodesRow : OpenClaim := { program := "ytefnmpococnepaa", sum := "f0b93810c718af246da99ba70d55dba282c2518069237e7a2a58a489e10799ff", func := "midstream/midstreamlaw08.IsaCodes", spec := "isaCodes", apart := false }
def IsaCodesSaid : Prop := isaCodesRow.holds Try.pinned (OpenSpec.ofChange isaCodesSpec)

/-- ITS FALSE NEIGHBOUR: 'it returns false'. Refute it at one input. -/
def isaCodesWrong : ChangeSpec := { name := "isaCodes", fn := fun _ => fun
  | [d] => { results := [.lit (.bool false)], args := [d] }
  | _ => none }
def IsaCodesWrongFalsely : Prop := isaCodesRow.holds Try.pinned (OpenSpec.ofChange isaCodesWrong)

/-- 'midstreamlaw08.IsaOnly': WHATEVER THE INPUT: true; the input reads as it did. -/
def isaOnlySpec : ChangeSpec := { name := "isaOnly", fn := fun _ => fun
  | [d] => { results := [.lit (.bool true)], args := [d] }
  | _ => none }
def isaOnlyRow : OpenClaim := { program := "ytefnmpococnepaa", sum := "f0b93810c718af246da99ba70d55dba282c2518069237e7a2a58a489e10799ff", func := "midstream/midstreamlaw08.IsaOnly", spec := "isaOnly", apart := false }
def IsaOnlySaid : Prop := isaOnlyRow.holds Try.pinned (OpenSpec.ofChange isaOnlySpec)

/-- ITS FALSE NEIGHBOUR: 'it returns false'. Refute it at one input. -/
def isaOnlyWrong : ChangeSpec := { name := "isaOnly", fn := fun _ => fun
  | [d] => { results := [.lit (.bool false)], args := [d] }
  | _ => none }
def IsaOnlyWrongFalsely : Prop := isaOnlyRow.holds Try.pinned (OpenSpec.ofChange isaOnlyWrong)

/-- 'midstreamlaw08.IsaJoins': WHATEVER THE INPUT: true; the input reads as it did. -/
def isaJoinsSpec : ChangeSpec := { name := "isaJoins", fn := fun _ => fun
  | [d1, d2] => { results := [.lit (.bool true)], args := [d1, d2] }
  | _ => none }
def isaJoinsRow : OpenClaim := { program := "ytefnmpococnepaa", sum := "f0b93810c718af246da99ba70d55dba282c2518069237e7a2a58a489e10799ff", func := "midstream/midstreamlaw08.IsaJoins", spec := "isaJoins", apart := false }
def IsaJoinsSaid : Prop := isaJoinsRow.holds Try.pinned (OpenSpec.ofChange isaJoinsSpec)

/-- ITS FALSE NEIGHBOUR: 'it returns false'. Refute it at one input. -/
def isaJoinsWrong : ChangeSpec := { name := "isaJoins", fn := fun _ => fun
  | [d1, d2] => { results := [.lit (.bool false)], args := [d1, d2] }
  | _ => none }
def IsaJoinsWrongFalsely : Prop := isaJoinsRow.holds Try.pinned (OpenSpec.ofChange isaJoinsWrong)

/-- 'midstreamlaw08.IsaBack': WHATEVER THE INPUT: true; the input reads as it did. -/
def isaBackSpec : ChangeSpec := { name := "isaBack", fn := fun _ => fun
  | [d] => { results := [.lit (.bool true)], args := [d] }
  | _ => none }
def isaBackRow : OpenClaim := { program := "ytefnmpococnepaa", sum := "f0b93810c718af246da99ba70d55dba282c2518069237e7a2a58a489e10799ff", func := "midstream/midstreamlaw08.IsaBack", spec := "isaBack", apart := false }
def IsaBackSaid : Prop := isaBackRow.holds Try.pinned (OpenSpec.ofChange isaBackSpec)

/-- ITS FALSE NEIGHBOUR: 'it returns false'. Refute it at one input. -/
def isaBackWrong : ChangeSpec := { name := "isaBack", fn := fun _ => fun
  | [d] => { results := [.lit (.bool false)], args := [d] }
  | _ => none }
def IsaBackWrongFalsely : Prop := isaBackRow.holds Try.pinned (OpenSpec.ofChange isaBackWrong)

/- THE SECOND FORM. 'bulk': how many values and letters a reading holds, each counted each time it is reached (what is shared counts as often as it is met; a slice's spare places count too). A statement '..UptoSaid' is the law's where the arguments, and the package variables that the reading takes, are together of bulk at most 1048576: NARROWER than '..Said'. Prove '..Said' where nothing that the law and all that it calls make is longer than what came in: it says more and counts as full. Else prove '..UptoSaid'. A law counts once. -/
mutual
def uptoBulk {H : Type} : DataW H → Nat
  | .lit (.string bytes) => bytes.length + 1
  | .lit _ => 1
  | .nil => 1
  | .ptr d => uptoBulk d + 1
  | .slice elems spare => uptoBulkAll elems + uptoBulkAll spare + 1
  | .agg parts => uptoBulkAll parts + 1
  | .iface _ d => uptoBulk d + 1
  | .map entries => uptoBulkEntries entries + 1
  | .held _ => 1
def uptoBulkAll {H : Type} : List (DataW H) → Nat
  | [] => 0
  | d :: r => uptoBulk d + uptoBulkAll r
def uptoBulkEntries {H : Type} : List (Lit × DataW H) → Nat
  | [] => 0
  | x :: r => uptoBulkEntry x + uptoBulkEntries r
def uptoBulkEntry {H : Type} : Lit × DataW H → Nat
  | (.string bytes, d) => bytes.length + uptoBulk d + 1
  | (_, d) => uptoBulk d + 1
 end
def uptoSmall : (H : Type) → List (DataW H) → Bool := fun _ ds => decide (uptoBulkAll ds ≤ 1048576)
def OpenSpec.upto (s : _root_.Go.ChangeSpec) : _root_.Go.OpenSpec := { _root_.Go.OpenSpec.ofChange s with cond := some uptoSmall }

/-- 'midstreamlaw08.IsaReads', WHERE WHAT IT READS IS OF BULK AT MOST 1048576: true; the input reads as it did. -/
def isaReadsUptoRow : OpenClaim := { program := "ytefnmpococnepaa", sum := "f0b93810c718af246da99ba70d55dba282c2518069237e7a2a58a489e10799ff", func := "midstream/midstreamlaw08.IsaReads", spec := "isaReads", apart := false, narrowed := true }
def IsaReadsUptoSaid : Prop := isaReadsUptoRow.holds Try.pinned (OpenSpec.upto isaReadsSpec)

/-- 'midstreamlaw08.IsaDecodes', WHERE WHAT IT READS IS OF BULK AT MOST 1048576: true; the input reads as it did. -/
def isaDecodesUptoRow : OpenClaim := { program := "ytefnmpococnepaa", sum := "f0b93810c718af246da99ba70d55dba282c2518069237e7a2a58a489e10799ff", func := "midstream/midstreamlaw08.IsaDecodes", spec := "isaDecodes", apart := false, narrowed := true }
def IsaDecodesUptoSaid : Prop := isaDecodesUptoRow.holds Try.pinned (OpenSpec.upto isaDecodesSpec)

/-- 'midstreamlaw08.IsaBytes', WHERE WHAT IT READS IS OF BULK AT MOST 1048576: true; the input reads as it did. -/
def isaBytesUptoRow : OpenClaim := { program := "ytefnmpococnepaa", sum := "f0b93810c718af246da99ba70d55dba282c2518069237e7a2a58a489e10799ff", func := "midstream/midstreamlaw08.IsaBytes", spec := "isaBytes", apart := false, narrowed := true }
def IsaBytesUptoSaid : Prop := isaBytesUptoRow.holds Try.pinned (OpenSpec.upto isaBytesSpec)

/-- 'midstreamlaw08.IsaCodes', WHERE WHAT IT READS IS OF BULK AT MOST 1048576: true; the input reads as it did. -/
def isaCodesUptoRow : OpenClaim := { program := "ytefnmpococnepaa", sum := "f0b93810c718af246da99ba70d55dba282c2518069237e7a2a58a489e10799ff", func := "midstream/midstreamlaw08.IsaCodes", spec := "isaCodes", apart := false, narrowed := true }
def IsaCodesUptoSaid : Prop := isaCodesUptoRow.holds Try.pinned (OpenSpec.upto isaCodesSpec)

/-- 'midstreamlaw08.IsaOnly', WHERE WHAT IT READS IS OF BULK AT MOST 1048576: true; the input reads as it did. -/
def isaOnlyUptoRow : OpenClaim := { program := "ytefnmpococnepaa", sum := "f0b93810c718af246da99ba70d55dba282c2518069237e7a2a58a489e10799ff", func := "midstream/midstreamlaw08.IsaOnly", spec := "isaOnly", apart := false, narrowed := true }
def IsaOnlyUptoSaid : Prop := isaOnlyUptoRow.holds Try.pinned (OpenSpec.upto isaOnlySpec)

/-- 'midstreamlaw08.IsaJoins', WHERE WHAT IT READS IS OF BULK AT MOST 1048576: true; the input reads as it did. -/
def isaJoinsUptoRow : OpenClaim := { program := "ytefnmpococnepaa", sum := "f0b93810c718af246da99ba70d55dba282c2518069237e7a2a58a489e10799ff", func := "midstream/midstreamlaw08.IsaJoins", spec := "isaJoins", apart := false, narrowed := true }
def IsaJoinsUptoSaid : Prop := isaJoinsUptoRow.holds Try.pinned (OpenSpec.upto isaJoinsSpec)

/-- 'midstreamlaw08.IsaBack', WHERE WHAT IT READS IS OF BULK AT MOST 1048576: true; the input reads as it did. -/
def isaBackUptoRow : OpenClaim := { program := "ytefnmpococnepaa", sum := "f0b93810c718af246da99ba70d55dba282c2518069237e7a2a58a489e10799ff", func := "midstream/midstreamlaw08.IsaBack", spec := "isaBack", apart := false, narrowed := true }
def IsaBackUptoSaid : Prop := isaBackUptoRow.holds Try.pinned (OpenSpec.upto isaBackSpec)

end Rows
end Go.Proofs.Ytefnmpococnepaa
