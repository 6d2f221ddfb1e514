/-
  NARROWER THAN 'FOR EVERY INPUT', by the rows' own cells (each row's printed sentence says how): TreePrints: loops · TreeBack: loops · TreeShows: loops · TreeBrackets: loops · TreeTells: loops.
  DERIVED. THE GIVEN ROWS OF THIS SEAT. 8 by the template 'for every input the law returns true; each argument reads behind the call as it read before'; 0 by the template 'total and deterministic' (their statements: YtilkilffkjhhbaaTotals.lean).
  GIVEN WITH THE SEED: the statements are not yours to turn. If you find one false, say at which input.
  Laid BY PROGRAM, IN A SANDBOX (cutbox-rows.mjs): the forced cells as the released guide's own fill.sh prints them over the translation 16a24e68d69a4ed7… (all of the seat's roots in one cut). By AI agents, Wed Nov 11 2026. No macro, syntax, notation, axiom, sorry.
-/
import Derived.Test.YtilkilffkjhhbaaChecked
import GoSem.Claim
import GoSem.ClaimJoined
import GoSem.ClaimMapViews
import Derived.JoinedTies
import Derived.KernelRfl
namespace Go.Proofs.Ytilkilffkjhhbaa
/- THE CELL 'sum', in the pinned program and in every row, IS THE sha256 OF THE DUMP (.gsa) THAT YtilkilffkjhhbaaProg.lean LOADS. Nothing in Lean hashes anything: it is a label: what it is worth is what the hold of that sum in a sandbox is worth. -/
noncomputable def Try.pinned : Pinned := { name := "ytilkilffkjhhbaa", sum := "16a24e68d69a4ed70544b3a717715bd74567d0fe94093791dfce6d417e581c18", checked := Try.checked }
namespace Rows
def none {H : Type} : Left H := { results := [], args := [] }

/-- 'midstreamlaw13.TreeParses': WHATEVER THE INPUT: true; the input reads as it did. -/
def treeParsesSpec : ChangeSpec := { name := "treeParses", fn := fun _ => fun
  | [d] => { results := [.lit (.bool true)], args := [d] }
  | _ => none }
def treeParsesRow : OpenClaim := { program := "ytilkilffkjhhbaa", sum := "16a24e68d69a4ed70544b3a717715bd74567d0fe94093791dfce6d417e581c18", func := "midstream/midstreamlaw13.TreeParses", spec := "treeParses", unfollowed := true, recurses := true, apart := false }
def TreeParsesSaid : Prop := treeParsesRow.holds Try.pinned (OpenSpec.ofChange treeParsesSpec)

/-- ITS FALSE NEIGHBOUR: 'it returns false'. Refute it at one input. -/
def treeParsesWrong : ChangeSpec := { name := "treeParses", fn := fun _ => fun
  | [d] => { results := [.lit (.bool false)], args := [d] }
  | _ => none }
def TreeParsesWrongFalsely : Prop := treeParsesRow.holds Try.pinned (OpenSpec.ofChange treeParsesWrong)

/-- 'midstreamlaw13.TreePrints': WHATEVER THE INPUT: true; the input reads as it did. -/
def treePrintsSpec : ChangeSpec := { name := "treePrints", fn := fun _ => fun
  | [d] => { results := [.lit (.bool true)], args := [d] }
  | _ => none }
def treePrintsRow : OpenClaim := { program := "ytilkilffkjhhbaa", sum := "16a24e68d69a4ed70544b3a717715bd74567d0fe94093791dfce6d417e581c18", func := "midstream/midstreamlaw13.TreePrints", spec := "treePrints", unfollowed := true, recurses := true, loops := true, apart := false }
def TreePrintsSaid : Prop := treePrintsRow.holds Try.pinned (OpenSpec.ofChange treePrintsSpec)

/-- ITS FALSE NEIGHBOUR: 'it returns false'. Refute it at one input. -/
def treePrintsWrong : ChangeSpec := { name := "treePrints", fn := fun _ => fun
  | [d] => { results := [.lit (.bool false)], args := [d] }
  | _ => none }
def TreePrintsWrongFalsely : Prop := treePrintsRow.holds Try.pinned (OpenSpec.ofChange treePrintsWrong)

/-- 'midstreamlaw13.TreeBack': WHATEVER THE INPUT: true; the input reads as it did. -/
def treeBackSpec : ChangeSpec := { name := "treeBack", fn := fun _ => fun
  | [d] => { results := [.lit (.bool true)], args := [d] }
  | _ => none }
def treeBackRow : OpenClaim := { program := "ytilkilffkjhhbaa", sum := "16a24e68d69a4ed70544b3a717715bd74567d0fe94093791dfce6d417e581c18", func := "midstream/midstreamlaw13.TreeBack", spec := "treeBack", unfollowed := true, recurses := true, loops := true, apart := false }
def TreeBackSaid : Prop := treeBackRow.holds Try.pinned (OpenSpec.ofChange treeBackSpec)

/-- ITS FALSE NEIGHBOUR: 'it returns false'. Refute it at one input. -/
def treeBackWrong : ChangeSpec := { name := "treeBack", fn := fun _ => fun
  | [d] => { results := [.lit (.bool false)], args := [d] }
  | _ => none }
def TreeBackWrongFalsely : Prop := treeBackRow.holds Try.pinned (OpenSpec.ofChange treeBackWrong)

/-- 'midstreamlaw13.TreeSpaces': WHATEVER THE INPUT: true; the input reads as it did. -/
def treeSpacesSpec : ChangeSpec := { name := "treeSpaces", fn := fun _ => fun
  | [d] => { results := [.lit (.bool true)], args := [d] }
  | _ => none }
def treeSpacesRow : OpenClaim := { program := "ytilkilffkjhhbaa", sum := "16a24e68d69a4ed70544b3a717715bd74567d0fe94093791dfce6d417e581c18", func := "midstream/midstreamlaw13.TreeSpaces", spec := "treeSpaces", unfollowed := true, recurses := true, apart := false }
def TreeSpacesSaid : Prop := treeSpacesRow.holds Try.pinned (OpenSpec.ofChange treeSpacesSpec)

/-- ITS FALSE NEIGHBOUR: 'it returns false'. Refute it at one input. -/
def treeSpacesWrong : ChangeSpec := { name := "treeSpaces", fn := fun _ => fun
  | [d] => { results := [.lit (.bool false)], args := [d] }
  | _ => none }
def TreeSpacesWrongFalsely : Prop := treeSpacesRow.holds Try.pinned (OpenSpec.ofChange treeSpacesWrong)

/-- 'midstreamlaw13.TreeShows': WHATEVER THE INPUT: true; the input reads as it did. -/
def treeShowsSpec : ChangeSpec := { name := "treeShows", fn := fun _ => fun
  | [d] => { results := [.lit (.bool true)], args := [d] }
  | _ => none }
def treeShowsRow : OpenClaim := { program := "ytilkilffkjhhbaa", sum := "16a24e68d69a4ed70544b3a717715bd74567d0fe94093791dfce6d417e581c18", func := "midstream/midstreamlaw13.TreeShows", spec := "treeShows", unfollowed := true, recurses := true, loops := true, apart := false }
def TreeShowsSaid : Prop := treeShowsRow.holds Try.pinned (OpenSpec.ofChange treeShowsSpec)

/-- ITS FALSE NEIGHBOUR: 'it returns false'. Refute it at one input. -/
def treeShowsWrong : ChangeSpec := { name := "treeShows", fn := fun _ => fun
  | [d] => { results := [.lit (.bool false)], args := [d] }
  | _ => none }
def TreeShowsWrongFalsely : Prop := treeShowsRow.holds Try.pinned (OpenSpec.ofChange treeShowsWrong)

/-- 'midstreamlaw13.TreeLevels': WHATEVER THE INPUT: true; the input reads as it did. -/
def treeLevelsSpec : ChangeSpec := { name := "treeLevels", fn := fun _ => fun
  | [d1, d2] => { results := [.lit (.bool true)], args := [d1, d2] }
  | _ => none }
def treeLevelsRow : OpenClaim := { program := "ytilkilffkjhhbaa", sum := "16a24e68d69a4ed70544b3a717715bd74567d0fe94093791dfce6d417e581c18", func := "midstream/midstreamlaw13.TreeLevels", spec := "treeLevels", unfollowed := true, recurses := true, apart := false }
def TreeLevelsSaid : Prop := treeLevelsRow.holds Try.pinned (OpenSpec.ofChange treeLevelsSpec)

/-- ITS FALSE NEIGHBOUR: 'it returns false'. Refute it at one input. -/
def treeLevelsWrong : ChangeSpec := { name := "treeLevels", fn := fun _ => fun
  | [d1, d2] => { results := [.lit (.bool false)], args := [d1, d2] }
  | _ => none }
def TreeLevelsWrongFalsely : Prop := treeLevelsRow.holds Try.pinned (OpenSpec.ofChange treeLevelsWrong)

/-- 'midstreamlaw13.TreeBrackets': WHATEVER THE INPUT: true; the input reads as it did. -/
def treeBracketsSpec : ChangeSpec := { name := "treeBrackets", fn := fun _ => fun
  | [d1, d2] => { results := [.lit (.bool true)], args := [d1, d2] }
  | _ => none }
def treeBracketsRow : OpenClaim := { program := "ytilkilffkjhhbaa", sum := "16a24e68d69a4ed70544b3a717715bd74567d0fe94093791dfce6d417e581c18", func := "midstream/midstreamlaw13.TreeBrackets", spec := "treeBrackets", unfollowed := true, recurses := true, loops := true, apart := false }
def TreeBracketsSaid : Prop := treeBracketsRow.holds Try.pinned (OpenSpec.ofChange treeBracketsSpec)

/-- ITS FALSE NEIGHBOUR: 'it returns false'. Refute it at one input. -/
def treeBracketsWrong : ChangeSpec := { name := "treeBrackets", fn := fun _ => fun
  | [d1, d2] => { results := [.lit (.bool false)], args := [d1, d2] }
  | _ => none }
def TreeBracketsWrongFalsely : Prop := treeBracketsRow.holds Try.pinned (OpenSpec.ofChange treeBracketsWrong)

/-- 'midstreamlaw13.TreeTells': WHATEVER THE INPUT: true; the input reads as it did. -/
def treeTellsSpec : ChangeSpec := { name := "treeTells", fn := fun _ => fun
  | [d1, d2] => { results := [.lit (.bool true)], args := [d1, d2] }
  | _ => none }
def treeTellsRow : OpenClaim := { program := "ytilkilffkjhhbaa", sum := "16a24e68d69a4ed70544b3a717715bd74567d0fe94093791dfce6d417e581c18", func := "midstream/midstreamlaw13.TreeTells", spec := "treeTells", unfollowed := true, recurses := true, loops := true, apart := false }
def TreeTellsSaid : Prop := treeTellsRow.holds Try.pinned (OpenSpec.ofChange treeTellsSpec)

/-- ITS FALSE NEIGHBOUR: 'it returns false'. Refute it at one input. -/
def treeTellsWrong : ChangeSpec := { name := "treeTells", fn := fun _ => fun
  | [d1, d2] => { results := [.lit (.bool false)], args := [d1, d2] }
  | _ => none }
def TreeTellsWrongFalsely : Prop := treeTellsRow.holds Try.pinned (OpenSpec.ofChange treeTellsWrong)

/- THE SECOND FORM. 'bulk': how many values and letters a reading holds, each counted each time it is reached (what is shared counts as often as it is met; a slice's spare places count too). A statement '..UptoSaid' is the law's where the arguments, and the package variables that the reading takes, are together of bulk at most 1048576: NARROWER than '..Said'. Prove '..Said' where nothing that the law and all that it calls make is longer than what came in: it says more and counts as full. Else prove '..UptoSaid'. A law counts once. -/
mutual
def uptoBulk {H : Type} : DataW H → Nat
  | .lit (.string bytes) => bytes.length + 1
  | .lit _ => 1
  | .nil => 1
  | .ptr d => uptoBulk d + 1
  | .slice elems spare => uptoBulkAll elems + uptoBulkAll spare + 1
  | .agg parts => uptoBulkAll parts + 1
  | .iface _ d => uptoBulk d + 1
  | .map entries => uptoBulkEntries entries + 1
  | .held _ => 1
def uptoBulkAll {H : Type} : List (DataW H) → Nat
  | [] => 0
  | d :: r => uptoBulk d + uptoBulkAll r
def uptoBulkEntries {H : Type} : List (Lit × DataW H) → Nat
  | [] => 0
  | x :: r => uptoBulkEntry x + uptoBulkEntries r
def uptoBulkEntry {H : Type} : Lit × DataW H → Nat
  | (.string bytes, d) => bytes.length + uptoBulk d + 1
  | (_, d) => uptoBulk d + 1
 end
def uptoSmall : (H : Type) → List (DataW H) → Bool := fun _ ds => decide (uptoBulkAll ds ≤ 1048576)
def OpenSpec.upto (s : _root_.Go.ChangeSpec) : _root_.Go.OpenSpec := { _root_.Go.OpenSpec.ofChange s with cond := some uptoSmall }

/-- 'midstreamlaw13.TreeParses', WHERE WHAT IT READS IS OF BULK AT MOST 1048576: true; the input reads as it did. -/
def treeParsesUptoRow : OpenClaim := { program := "ytilkilffkjhhbaa", sum := "16a24e68d69a4ed70544b3a717715bd74567d0fe94093791dfce6d417e581c18", func := "midstream/midstreamlaw13.TreeParses", spec := "treeParses", unfollowed := true, recurses := true, apart := false, narrowed := true }
def TreeParsesUptoSaid : Prop := treeParsesUptoRow.holds Try.pinned (OpenSpec.upto treeParsesSpec)

/-- 'midstreamlaw13.TreePrints', WHERE WHAT IT READS IS OF BULK AT MOST 1048576: true; the input reads as it did. -/
def treePrintsUptoRow : OpenClaim := { program := "ytilkilffkjhhbaa", sum := "16a24e68d69a4ed70544b3a717715bd74567d0fe94093791dfce6d417e581c18", func := "midstream/midstreamlaw13.TreePrints", spec := "treePrints", unfollowed := true, recurses := true, loops := true, apart := false, narrowed := true }
def TreePrintsUptoSaid : Prop := treePrintsUptoRow.holds Try.pinned (OpenSpec.upto treePrintsSpec)

/-- 'midstreamlaw13.TreeBack', WHERE WHAT IT READS IS OF BULK AT MOST 1048576: true; the input reads as it did. -/
def treeBackUptoRow : OpenClaim := { program := "ytilkilffkjhhbaa", sum := "16a24e68d69a4ed70544b3a717715bd74567d0fe94093791dfce6d417e581c18", func := "midstream/midstreamlaw13.TreeBack", spec := "treeBack", unfollowed := true, recurses := true, loops := true, apart := false, narrowed := true }
def TreeBackUptoSaid : Prop := treeBackUptoRow.holds Try.pinned (OpenSpec.upto treeBackSpec)

/-- 'midstreamlaw13.TreeSpaces', WHERE WHAT IT READS IS OF BULK AT MOST 1048576: true; the input reads as it did. -/
def treeSpacesUptoRow : OpenClaim := { program := "ytilkilffkjhhbaa", sum := "16a24e68d69a4ed70544b3a717715bd74567d0fe94093791dfce6d417e581c18", func := "midstream/midstreamlaw13.TreeSpaces", spec := "treeSpaces", unfollowed := true, recurses := true, apart := false, narrowed := true }
def TreeSpacesUptoSaid : Prop := treeSpacesUptoRow.holds Try.pinned (OpenSpec.upto treeSpacesSpec)

/-- 'midstreamlaw13.TreeShows', WHERE WHAT IT READS IS OF BULK AT MOST 1048576: true; the input reads as it did. -/
def treeShowsUptoRow : OpenClaim := { program := "ytilkilffkjhhbaa", sum := "16a24e68d69a4ed70544b3a717715bd74567d0fe94093791dfce6d417e581c18", func := "midstream/midstreamlaw13.TreeShows", spec := "treeShows", unfollowed := true, recurses := true, loops := true, apart := false, narrowed := true }
def TreeShowsUptoSaid : Prop := treeShowsUptoRow.holds Try.pinned (OpenSpec.upto treeShowsSpec)

/-- 'midstreamlaw13.TreeLevels', WHERE WHAT IT READS IS OF BULK AT MOST 1048576: true; the input reads as it did. -/
def treeLevelsUptoRow : OpenClaim := { program := "ytilkilffkjhhbaa", sum := "16a24e68d69a4ed70544b3a717715bd74567d0fe94093791dfce6d417e581c18", func := "midstream/midstreamlaw13.TreeLevels", spec := "treeLevels", unfollowed := true, recurses := true, apart := false, narrowed := true }
def TreeLevelsUptoSaid : Prop := treeLevelsUptoRow.holds Try.pinned (OpenSpec.upto treeLevelsSpec)

/-- 'midstreamlaw13.TreeBrackets', WHERE WHAT IT READS IS OF BULK AT MOST 1048576: true; the input reads as it did. -/
def treeBracketsUptoRow : OpenClaim := { program := "ytilkilffkjhhbaa", sum := "16a24e68d69a4ed70544b3a717715bd74567d0fe94093791dfce6d417e581c18", func := "midstream/midstreamlaw13.TreeBrackets", spec := "treeBrackets", unfollowed := true, recurses := true, loops := true, apart := false, narrowed := true }
def TreeBracketsUptoSaid : Prop := treeBracketsUptoRow.holds Try.pinned (OpenSpec.upto treeBracketsSpec)

/-- 'midstreamlaw13.TreeTells', WHERE WHAT IT READS IS OF BULK AT MOST 1048576: true; the input reads as it did. -/
def treeTellsUptoRow : OpenClaim := { program := "ytilkilffkjhhbaa", sum := "16a24e68d69a4ed70544b3a717715bd74567d0fe94093791dfce6d417e581c18", func := "midstream/midstreamlaw13.TreeTells", spec := "treeTells", unfollowed := true, recurses := true, loops := true, apart := false, narrowed := true }
def TreeTellsUptoSaid : Prop := treeTellsUptoRow.holds Try.pinned (OpenSpec.upto treeTellsSpec)

end Rows
end Go.Proofs.Ytilkilffkjhhbaa
