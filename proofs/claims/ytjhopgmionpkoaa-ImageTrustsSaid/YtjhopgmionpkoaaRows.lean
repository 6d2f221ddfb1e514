/-
  No cell of these rows narrows 'for every input' (looked for: loops, veiled, ifaces, maps, wideKeys, modest, calm, conditions, laid).
  DERIVED. THE GIVEN ROWS OF THIS SEAT. 6 by the template 'for every input the law returns true; each argument reads behind the call as it read before'; 0 by the template 'total and deterministic' (their statements: YtjhopgmionpkoaaTotals.lean).
  GIVEN WITH THE SEED: the statements are not yours to turn. If you find one false, say at which input.
  Laid BY PROGRAM, IN A SANDBOX (cutbox-rows.mjs): the forced cells as the released guide's own fill.sh prints them over the translation 32d6a2c81e716017… (all of the seat's roots in one cut). By AI agents, Wed Nov 11 2026. No macro, syntax, notation, axiom, sorry.
-/
import Derived.Test.YtjhopgmionpkoaaChecked
import GoSem.Claim
import GoSem.ClaimJoined
import GoSem.ClaimMapViews
import Derived.JoinedTies
import Derived.KernelRfl
namespace Go.Proofs.Ytjhopgmionpkoaa
/- THE CELL 'sum', in the pinned program and in every row, IS THE sha256 OF THE DUMP (.gsa) THAT YtjhopgmionpkoaaProg.lean LOADS. Nothing in Lean hashes anything: it is a label: what it is worth is what the hold of that sum in a sandbox is worth. -/
noncomputable def Try.pinned : Pinned := { name := "ytjhopgmionpkoaa", sum := "32d6a2c81e7160177cb3c250192116577258905fcd0af6bc5b07dc58e099d035", checked := Try.checked }
namespace Rows
def none {H : Type} : Left H := { results := [], args := [] }

/-- 'midstreamlaw11.ImageChecks': WHATEVER THE INPUT: true; the input reads as it did. -/
def imageChecksSpec : ChangeSpec := { name := "imageChecks", fn := fun _ => fun
  | [d] => { results := [.lit (.bool true)], args := [d] }
  | _ => none }
def imageChecksRow : OpenClaim := { program := "ytjhopgmionpkoaa", sum := "32d6a2c81e7160177cb3c250192116577258905fcd0af6bc5b07dc58e099d035", func := "midstream/midstreamlaw11.ImageChecks", spec := "imageChecks", unfollowed := true, recurses := true, apart := false }
def ImageChecksSaid : Prop := imageChecksRow.holds Try.pinned (OpenSpec.ofChange imageChecksSpec)

/-- ITS FALSE NEIGHBOUR: 'it returns false'. Refute it at one input. -/
def imageChecksWrong : ChangeSpec := { name := "imageChecks", fn := fun _ => fun
  | [d] => { results := [.lit (.bool false)], args := [d] }
  | _ => none }
def ImageChecksWrongFalsely : Prop := imageChecksRow.holds Try.pinned (OpenSpec.ofChange imageChecksWrong)

/-- 'midstreamlaw11.ImageParses': WHATEVER THE INPUT: true; the input reads as it did. -/
def imageParsesSpec : ChangeSpec := { name := "imageParses", fn := fun _ => fun
  | [d] => { results := [.lit (.bool true)], args := [d] }
  | _ => none }
def imageParsesRow : OpenClaim := { program := "ytjhopgmionpkoaa", sum := "32d6a2c81e7160177cb3c250192116577258905fcd0af6bc5b07dc58e099d035", func := "midstream/midstreamlaw11.ImageParses", spec := "imageParses", unfollowed := true, recurses := true, apart := false }
def ImageParsesSaid : Prop := imageParsesRow.holds Try.pinned (OpenSpec.ofChange imageParsesSpec)

/-- ITS FALSE NEIGHBOUR: 'it returns false'. Refute it at one input. -/
def imageParsesWrong : ChangeSpec := { name := "imageParses", fn := fun _ => fun
  | [d] => { results := [.lit (.bool false)], args := [d] }
  | _ => none }
def ImageParsesWrongFalsely : Prop := imageParsesRow.holds Try.pinned (OpenSpec.ofChange imageParsesWrong)

/-- 'midstreamlaw11.ImageOnly': WHATEVER THE INPUT: true; the input reads as it did. -/
def imageOnlySpec : ChangeSpec := { name := "imageOnly", fn := fun _ => fun
  | [d] => { results := [.lit (.bool true)], args := [d] }
  | _ => none }
def imageOnlyRow : OpenClaim := { program := "ytjhopgmionpkoaa", sum := "32d6a2c81e7160177cb3c250192116577258905fcd0af6bc5b07dc58e099d035", func := "midstream/midstreamlaw11.ImageOnly", spec := "imageOnly", unfollowed := true, recurses := true, apart := false }
def ImageOnlySaid : Prop := imageOnlyRow.holds Try.pinned (OpenSpec.ofChange imageOnlySpec)

/-- ITS FALSE NEIGHBOUR: 'it returns false'. Refute it at one input. -/
def imageOnlyWrong : ChangeSpec := { name := "imageOnly", fn := fun _ => fun
  | [d] => { results := [.lit (.bool false)], args := [d] }
  | _ => none }
def ImageOnlyWrongFalsely : Prop := imageOnlyRow.holds Try.pinned (OpenSpec.ofChange imageOnlyWrong)

/-- 'midstreamlaw11.ImageTrusts': WHATEVER THE INPUT: true; the input reads as it did. -/
def imageTrustsSpec : ChangeSpec := { name := "imageTrusts", fn := fun _ => fun
  | [d1, d2] => { results := [.lit (.bool true)], args := [d1, d2] }
  | _ => none }
def imageTrustsRow : OpenClaim := { program := "ytjhopgmionpkoaa", sum := "32d6a2c81e7160177cb3c250192116577258905fcd0af6bc5b07dc58e099d035", func := "midstream/midstreamlaw11.ImageTrusts", spec := "imageTrusts", unfollowed := true, recurses := true, apart := false }
def ImageTrustsSaid : Prop := imageTrustsRow.holds Try.pinned (OpenSpec.ofChange imageTrustsSpec)

/-- ITS FALSE NEIGHBOUR: 'it returns false'. Refute it at one input. -/
def imageTrustsWrong : ChangeSpec := { name := "imageTrusts", fn := fun _ => fun
  | [d1, d2] => { results := [.lit (.bool false)], args := [d1, d2] }
  | _ => none }
def ImageTrustsWrongFalsely : Prop := imageTrustsRow.holds Try.pinned (OpenSpec.ofChange imageTrustsWrong)

/-- 'midstreamlaw11.ImageSigns': WHATEVER THE INPUT: true; the input reads as it did. -/
def imageSignsSpec : ChangeSpec := { name := "imageSigns", fn := fun _ => fun
  | [d1, d2, d3] => { results := [.lit (.bool true)], args := [d1, d2, d3] }
  | _ => none }
def imageSignsRow : OpenClaim := { program := "ytjhopgmionpkoaa", sum := "32d6a2c81e7160177cb3c250192116577258905fcd0af6bc5b07dc58e099d035", func := "midstream/midstreamlaw11.ImageSigns", spec := "imageSigns", unfollowed := true, recurses := true, apart := false }
def ImageSignsSaid : Prop := imageSignsRow.holds Try.pinned (OpenSpec.ofChange imageSignsSpec)

/-- ITS FALSE NEIGHBOUR: 'it returns false'. Refute it at one input. -/
def imageSignsWrong : ChangeSpec := { name := "imageSigns", fn := fun _ => fun
  | [d1, d2, d3] => { results := [.lit (.bool false)], args := [d1, d2, d3] }
  | _ => none }
def ImageSignsWrongFalsely : Prop := imageSignsRow.holds Try.pinned (OpenSpec.ofChange imageSignsWrong)

/-- 'midstreamlaw11.ImageBack': WHATEVER THE INPUT: true; the input reads as it did. -/
def imageBackSpec : ChangeSpec := { name := "imageBack", fn := fun _ => fun
  | [d1, d2] => { results := [.lit (.bool true)], args := [d1, d2] }
  | _ => none }
def imageBackRow : OpenClaim := { program := "ytjhopgmionpkoaa", sum := "32d6a2c81e7160177cb3c250192116577258905fcd0af6bc5b07dc58e099d035", func := "midstream/midstreamlaw11.ImageBack", spec := "imageBack", unfollowed := true, recurses := true, apart := false }
def ImageBackSaid : Prop := imageBackRow.holds Try.pinned (OpenSpec.ofChange imageBackSpec)

/-- ITS FALSE NEIGHBOUR: 'it returns false'. Refute it at one input. -/
def imageBackWrong : ChangeSpec := { name := "imageBack", fn := fun _ => fun
  | [d1, d2] => { results := [.lit (.bool false)], args := [d1, d2] }
  | _ => none }
def ImageBackWrongFalsely : Prop := imageBackRow.holds Try.pinned (OpenSpec.ofChange imageBackWrong)

/- THE SECOND FORM. 'bulk': how many values and letters a reading holds, each counted each time it is reached (what is shared counts as often as it is met; a slice's spare places count too). A statement '..UptoSaid' is the law's where the arguments, and the package variables that the reading takes, are together of bulk at most 1048576: NARROWER than '..Said'. Prove '..Said' where nothing that the law and all that it calls make is longer than what came in: it says more and counts as full. Else prove '..UptoSaid'. A law counts once. -/
mutual
def uptoBulk {H : Type} : DataW H → Nat
  | .lit (.string bytes) => bytes.length + 1
  | .lit _ => 1
  | .nil => 1
  | .ptr d => uptoBulk d + 1
  | .slice elems spare => uptoBulkAll elems + uptoBulkAll spare + 1
  | .agg parts => uptoBulkAll parts + 1
  | .iface _ d => uptoBulk d + 1
  | .map entries => uptoBulkEntries entries + 1
  | .held _ => 1
def uptoBulkAll {H : Type} : List (DataW H) → Nat
  | [] => 0
  | d :: r => uptoBulk d + uptoBulkAll r
def uptoBulkEntries {H : Type} : List (Lit × DataW H) → Nat
  | [] => 0
  | x :: r => uptoBulkEntry x + uptoBulkEntries r
def uptoBulkEntry {H : Type} : Lit × DataW H → Nat
  | (.string bytes, d) => bytes.length + uptoBulk d + 1
  | (_, d) => uptoBulk d + 1
 end
def uptoSmall : (H : Type) → List (DataW H) → Bool := fun _ ds => decide (uptoBulkAll ds ≤ 1048576)
def OpenSpec.upto (s : _root_.Go.ChangeSpec) : _root_.Go.OpenSpec := { _root_.Go.OpenSpec.ofChange s with cond := some uptoSmall }

/-- 'midstreamlaw11.ImageChecks', WHERE WHAT IT READS IS OF BULK AT MOST 1048576: true; the input reads as it did. -/
def imageChecksUptoRow : OpenClaim := { program := "ytjhopgmionpkoaa", sum := "32d6a2c81e7160177cb3c250192116577258905fcd0af6bc5b07dc58e099d035", func := "midstream/midstreamlaw11.ImageChecks", spec := "imageChecks", unfollowed := true, recurses := true, apart := false, narrowed := true }
def ImageChecksUptoSaid : Prop := imageChecksUptoRow.holds Try.pinned (OpenSpec.upto imageChecksSpec)

/-- 'midstreamlaw11.ImageParses', WHERE WHAT IT READS IS OF BULK AT MOST 1048576: true; the input reads as it did. -/
def imageParsesUptoRow : OpenClaim := { program := "ytjhopgmionpkoaa", sum := "32d6a2c81e7160177cb3c250192116577258905fcd0af6bc5b07dc58e099d035", func := "midstream/midstreamlaw11.ImageParses", spec := "imageParses", unfollowed := true, recurses := true, apart := false, narrowed := true }
def ImageParsesUptoSaid : Prop := imageParsesUptoRow.holds Try.pinned (OpenSpec.upto imageParsesSpec)

/-- 'midstreamlaw11.ImageOnly', WHERE WHAT IT READS IS OF BULK AT MOST 1048576: true; the input reads as it did. -/
def imageOnlyUptoRow : OpenClaim := { program := "ytjhopgmionpkoaa", sum := "32d6a2c81e7160177cb3c250192116577258905fcd0af6bc5b07dc58e099d035", func := "midstream/midstreamlaw11.ImageOnly", spec := "imageOnly", unfollowed := true, recurses := true, apart := false, narrowed := true }
def ImageOnlyUptoSaid : Prop := imageOnlyUptoRow.holds Try.pinned (OpenSpec.upto imageOnlySpec)

/-- 'midstreamlaw11.ImageTrusts', WHERE WHAT IT READS IS OF BULK AT MOST 1048576: true; the input reads as it did. -/
def imageTrustsUptoRow : OpenClaim := { program := "ytjhopgmionpkoaa", sum := "32d6a2c81e7160177cb3c250192116577258905fcd0af6bc5b07dc58e099d035", func := "midstream/midstreamlaw11.ImageTrusts", spec := "imageTrusts", unfollowed := true, recurses := true, apart := false, narrowed := true }
def ImageTrustsUptoSaid : Prop := imageTrustsUptoRow.holds Try.pinned (OpenSpec.upto imageTrustsSpec)

/-- 'midstreamlaw11.ImageSigns', WHERE WHAT IT READS IS OF BULK AT MOST 1048576: true; the input reads as it did. -/
def imageSignsUptoRow : OpenClaim := { program := "ytjhopgmionpkoaa", sum := "32d6a2c81e7160177cb3c250192116577258905fcd0af6bc5b07dc58e099d035", func := "midstream/midstreamlaw11.ImageSigns", spec := "imageSigns", unfollowed := true, recurses := true, apart := false, narrowed := true }
def ImageSignsUptoSaid : Prop := imageSignsUptoRow.holds Try.pinned (OpenSpec.upto imageSignsSpec)

/-- 'midstreamlaw11.ImageBack', WHERE WHAT IT READS IS OF BULK AT MOST 1048576: true; the input reads as it did. -/
def imageBackUptoRow : OpenClaim := { program := "ytjhopgmionpkoaa", sum := "32d6a2c81e7160177cb3c250192116577258905fcd0af6bc5b07dc58e099d035", func := "midstream/midstreamlaw11.ImageBack", spec := "imageBack", unfollowed := true, recurses := true, apart := false, narrowed := true }
def ImageBackUptoSaid : Prop := imageBackUptoRow.holds Try.pinned (OpenSpec.upto imageBackSpec)

end Rows
end Go.Proofs.Ytjhopgmionpkoaa
