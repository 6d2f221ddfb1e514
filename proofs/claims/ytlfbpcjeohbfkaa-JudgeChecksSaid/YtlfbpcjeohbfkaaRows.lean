/-
  No cell of these rows narrows 'for every input' (looked for: loops, veiled, ifaces, maps, wideKeys, modest, calm, conditions, laid).
  DERIVED. THE GIVEN ROWS OF THIS SEAT. 5 by the template 'for every input the law returns true; each argument reads behind the call as it read before'; 0 by the template 'total and deterministic' (their statements: YtlfbpcjeohbfkaaTotals.lean).
  GIVEN WITH THE SEED: the statements are not yours to turn. If you find one false, say at which input.
  Laid BY PROGRAM, IN A SANDBOX (cutbox-rows.mjs): the forced cells as the released guide's own fill.sh prints them over the translation 1877407fad000a97… (all of the seat's roots in one cut). By AI agents, Wed Nov 11 2026. No macro, syntax, notation, axiom, sorry.
-/
import Derived.Test.YtlfbpcjeohbfkaaChecked
import GoSem.Claim
import GoSem.ClaimJoined
import GoSem.ClaimMapViews
import Derived.JoinedTies
import Derived.KernelRfl
namespace Go.Proofs.Ytlfbpcjeohbfkaa
/- THE CELL 'sum', in the pinned program and in every row, IS THE sha256 OF THE DUMP (.gsa) THAT YtlfbpcjeohbfkaaProg.lean LOADS. Nothing in Lean hashes anything: it is a label: what it is worth is what the hold of that sum in a sandbox is worth. -/
noncomputable def Try.pinned : Pinned := { name := "ytlfbpcjeohbfkaa", sum := "1877407fad000a9715fd6242e99dec2704446f55661cc61f2f9e9b274f7dec2e", checked := Try.checked }
namespace Rows
def none {H : Type} : Left H := { results := [], args := [] }

/-- 'midstreamlaw09.JudgeChecks': WHATEVER THE INPUT: true; the input reads as it did. -/
def judgeChecksSpec : ChangeSpec := { name := "judgeChecks", fn := fun _ => fun
  | [d1, d2] => { results := [.lit (.bool true)], args := [d1, d2] }
  | _ => none }
def judgeChecksRow : OpenClaim := { program := "ytlfbpcjeohbfkaa", sum := "1877407fad000a9715fd6242e99dec2704446f55661cc61f2f9e9b274f7dec2e", func := "midstream/midstreamlaw09.JudgeChecks", spec := "judgeChecks", unfollowed := true, recurses := true, apart := false }
def JudgeChecksSaid : Prop := judgeChecksRow.holds Try.pinned (OpenSpec.ofChange judgeChecksSpec)

/-- ITS FALSE NEIGHBOUR: 'it returns false'. Refute it at one input. -/
def judgeChecksWrong : ChangeSpec := { name := "judgeChecks", fn := fun _ => fun
  | [d1, d2] => { results := [.lit (.bool false)], args := [d1, d2] }
  | _ => none }
def JudgeChecksWrongFalsely : Prop := judgeChecksRow.holds Try.pinned (OpenSpec.ofChange judgeChecksWrong)

/-- 'midstreamlaw09.JudgeWays': WHATEVER THE INPUT: true; the input reads as it did. -/
def judgeWaysSpec : ChangeSpec := { name := "judgeWays", fn := fun _ => fun
  | [d1, d2, d3] => { results := [.lit (.bool true)], args := [d1, d2, d3] }
  | _ => none }
def judgeWaysRow : OpenClaim := { program := "ytlfbpcjeohbfkaa", sum := "1877407fad000a9715fd6242e99dec2704446f55661cc61f2f9e9b274f7dec2e", func := "midstream/midstreamlaw09.JudgeWays", spec := "judgeWays", unfollowed := true, recurses := true, apart := false }
def JudgeWaysSaid : Prop := judgeWaysRow.holds Try.pinned (OpenSpec.ofChange judgeWaysSpec)

/-- ITS FALSE NEIGHBOUR: 'it returns false'. Refute it at one input. -/
def judgeWaysWrong : ChangeSpec := { name := "judgeWays", fn := fun _ => fun
  | [d1, d2, d3] => { results := [.lit (.bool false)], args := [d1, d2, d3] }
  | _ => none }
def JudgeWaysWrongFalsely : Prop := judgeWaysRow.holds Try.pinned (OpenSpec.ofChange judgeWaysWrong)

/-- 'midstreamlaw09.JudgeJoins': WHATEVER THE INPUT: true; the input reads as it did. -/
def judgeJoinsSpec : ChangeSpec := { name := "judgeJoins", fn := fun _ => fun
  | [d1, d2, d3] => { results := [.lit (.bool true)], args := [d1, d2, d3] }
  | _ => none }
def judgeJoinsRow : OpenClaim := { program := "ytlfbpcjeohbfkaa", sum := "1877407fad000a9715fd6242e99dec2704446f55661cc61f2f9e9b274f7dec2e", func := "midstream/midstreamlaw09.JudgeJoins", spec := "judgeJoins", unfollowed := true, recurses := true, apart := false }
def JudgeJoinsSaid : Prop := judgeJoinsRow.holds Try.pinned (OpenSpec.ofChange judgeJoinsSpec)

/-- ITS FALSE NEIGHBOUR: 'it returns false'. Refute it at one input. -/
def judgeJoinsWrong : ChangeSpec := { name := "judgeJoins", fn := fun _ => fun
  | [d1, d2, d3] => { results := [.lit (.bool false)], args := [d1, d2, d3] }
  | _ => none }
def JudgeJoinsWrongFalsely : Prop := judgeJoinsRow.holds Try.pinned (OpenSpec.ofChange judgeJoinsWrong)

/-- 'midstreamlaw09.JudgeWider': WHATEVER THE INPUT: true; the input reads as it did. -/
def judgeWiderSpec : ChangeSpec := { name := "judgeWider", fn := fun _ => fun
  | [d1, d2, d3] => { results := [.lit (.bool true)], args := [d1, d2, d3] }
  | _ => none }
def judgeWiderRow : OpenClaim := { program := "ytlfbpcjeohbfkaa", sum := "1877407fad000a9715fd6242e99dec2704446f55661cc61f2f9e9b274f7dec2e", func := "midstream/midstreamlaw09.JudgeWider", spec := "judgeWider", unfollowed := true, recurses := true, apart := false }
def JudgeWiderSaid : Prop := judgeWiderRow.holds Try.pinned (OpenSpec.ofChange judgeWiderSpec)

/-- ITS FALSE NEIGHBOUR: 'it returns false'. Refute it at one input. -/
def judgeWiderWrong : ChangeSpec := { name := "judgeWider", fn := fun _ => fun
  | [d1, d2, d3] => { results := [.lit (.bool false)], args := [d1, d2, d3] }
  | _ => none }
def JudgeWiderWrongFalsely : Prop := judgeWiderRow.holds Try.pinned (OpenSpec.ofChange judgeWiderWrong)

/-- 'midstreamlaw09.JudgeTight': WHATEVER THE INPUT: true; the input reads as it did. -/
def judgeTightSpec : ChangeSpec := { name := "judgeTight", fn := fun _ => fun
  | [d1, d2] => { results := [.lit (.bool true)], args := [d1, d2] }
  | _ => none }
def judgeTightRow : OpenClaim := { program := "ytlfbpcjeohbfkaa", sum := "1877407fad000a9715fd6242e99dec2704446f55661cc61f2f9e9b274f7dec2e", func := "midstream/midstreamlaw09.JudgeTight", spec := "judgeTight", unfollowed := true, recurses := true, apart := false }
def JudgeTightSaid : Prop := judgeTightRow.holds Try.pinned (OpenSpec.ofChange judgeTightSpec)

/-- ITS FALSE NEIGHBOUR: 'it returns false'. Refute it at one input. -/
def judgeTightWrong : ChangeSpec := { name := "judgeTight", fn := fun _ => fun
  | [d1, d2] => { results := [.lit (.bool false)], args := [d1, d2] }
  | _ => none }
def JudgeTightWrongFalsely : Prop := judgeTightRow.holds Try.pinned (OpenSpec.ofChange judgeTightWrong)

/- THE SECOND FORM. 'bulk': how many values and letters a reading holds, each counted each time it is reached (what is shared counts as often as it is met; a slice's spare places count too). A statement '..UptoSaid' is the law's where the arguments, and the package variables that the reading takes, are together of bulk at most 1048576: NARROWER than '..Said'. Prove '..Said' where nothing that the law and all that it calls make is longer than what came in: it says more and counts as full. Else prove '..UptoSaid'. A law counts once. -/
mutual
def uptoBulk {H : Type} : DataW H → Nat
  | .lit (.string bytes) => bytes.length + 1
  | .lit _ => 1
  | .nil => 1
  | .ptr d => uptoBulk d + 1
  | .slice elems spare => uptoBulkAll elems + uptoBulkAll spare + 1
  | .agg parts => uptoBulkAll parts + 1
  | .iface _ d => uptoBulk d + 1
  | .map entries => uptoBulkEntries entries + 1
  | .held _ => 1
def uptoBulkAll {H : Type} : List (DataW H) → Nat
  | [] => 0
  | d :: r => uptoBulk d + uptoBulkAll r
def uptoBulkEntries {H : Type} : List (Lit × DataW H) → Nat
  | [] => 0
  | x :: r => uptoBulkEntry x + uptoBulkEntries r
def uptoBulkEntry {H : Type} : Lit × DataW H → Nat
  | (.string bytes, d) => bytes.length + uptoBulk d + 1
  | (_, d) => uptoBulk d + 1
 end
def uptoSmall : (H : Type) → List (DataW H) → Bool := fun _ ds => decide (uptoBulkAll ds ≤ 1048576)
def OpenSpec.upto (s : _root_.Go.ChangeSpec) : _root_.Go.OpenSpec := { _root_.Go.OpenSpec.ofChange s with cond := some uptoSmall }

/-- 'midstreamlaw09.JudgeChecks', WHERE WHAT IT READS IS OF BULK AT MOST 1048576: true; the input reads as it did. -/
def judgeChecksUptoRow : OpenClaim := { program := "ytlfbpcjeohbfkaa", sum := "1877407fad000a9715fd6242e99dec2704446f55661cc61f2f9e9b274f7dec2e", func := "midstream/midstreamlaw09.JudgeChecks", spec := "judgeChecks", unfollowed := true, recurses := true, apart := false, narrowed := true }
def JudgeChecksUptoSaid : Prop := judgeChecksUptoRow.holds Try.pinned (OpenSpec.upto judgeChecksSpec)

/-- 'midstreamlaw09.JudgeWays', WHERE WHAT IT READS IS OF BULK AT MOST 1048576: true; the input reads as it did. -/
def judgeWaysUptoRow : OpenClaim := { program := "ytlfbpcjeohbfkaa", sum := "1877407fad000a9715fd6242e99dec2704446f55661cc61f2f9e9b274f7dec2e", func := "midstream/midstreamlaw09.JudgeWays", spec := "judgeWays", unfollowed := true, recurses := true, apart := false, narrowed := true }
def JudgeWaysUptoSaid : Prop := judgeWaysUptoRow.holds Try.pinned (OpenSpec.upto judgeWaysSpec)

/-- 'midstreamlaw09.JudgeJoins', WHERE WHAT IT READS IS OF BULK AT MOST 1048576: true; the input reads as it did. -/
def judgeJoinsUptoRow : OpenClaim := { program := "ytlfbpcjeohbfkaa", sum := "1877407fad000a9715fd6242e99dec2704446f55661cc61f2f9e9b274f7dec2e", func := "midstream/midstreamlaw09.JudgeJoins", spec := "judgeJoins", unfollowed := true, recurses := true, apart := false, narrowed := true }
def JudgeJoinsUptoSaid : Prop := judgeJoinsUptoRow.holds Try.pinned (OpenSpec.upto judgeJoinsSpec)

/-- 'midstreamlaw09.JudgeWider', WHERE WHAT IT READS IS OF BULK AT MOST 1048576: true; the input reads as it did. -/
def judgeWiderUptoRow : OpenClaim := { program := "ytlfbpcjeohbfkaa", sum := "1877407fad000a9715fd6242e99dec2704446f55661cc61f2f9e9b274f7dec2e", func := "midstream/midstreamlaw09.JudgeWider", spec := "judgeWider", unfollowed := true, recurses := true, apart := false, narrowed := true }
def JudgeWiderUptoSaid : Prop := judgeWiderUptoRow.holds Try.pinned (OpenSpec.upto judgeWiderSpec)

/-- 'midstreamlaw09.JudgeTight', WHERE WHAT IT READS IS OF BULK AT MOST 1048576: true; the input reads as it did. -/
def judgeTightUptoRow : OpenClaim := { program := "ytlfbpcjeohbfkaa", sum := "1877407fad000a9715fd6242e99dec2704446f55661cc61f2f9e9b274f7dec2e", func := "midstream/midstreamlaw09.JudgeTight", spec := "judgeTight", unfollowed := true, recurses := true, apart := false, narrowed := true }
def JudgeTightUptoSaid : Prop := judgeTightUptoRow.holds Try.pinned (OpenSpec.upto judgeTightSpec)

end Rows
end Go.Proofs.Ytlfbpcjeohbfkaa
