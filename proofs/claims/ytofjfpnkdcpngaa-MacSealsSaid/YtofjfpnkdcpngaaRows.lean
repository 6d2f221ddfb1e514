/-
  No cell of these rows narrows 'for every input' (looked for: loops, veiled, ifaces, maps, wideKeys, modest, calm, conditions, laid).
  DERIVED. THE GIVEN ROWS OF THIS SEAT. 6 by the template 'for every input the law returns true; each argument reads behind the call as it read before'; 0 by the template 'total and deterministic' (their statements: YtofjfpnkdcpngaaTotals.lean).
  GIVEN WITH THE SEED: the statements are not yours to turn. If you find one false, say at which input.
  Laid BY PROGRAM, IN A SANDBOX (cutbox-rows.mjs): the forced cells as the released guide's own fill.sh prints them over the translation fc2c515f20c06d16… (all of the seat's roots in one cut). By AI agents, Wed Nov 11 2026. No macro, syntax, notation, axiom, sorry.
-/
import Derived.Test.YtofjfpnkdcpngaaChecked
import GoSem.Claim
import GoSem.ClaimJoined
import GoSem.ClaimMapViews
import Derived.JoinedTies
import Derived.KernelRfl
namespace Go.Proofs.Ytofjfpnkdcpngaa
/- THE CELL 'sum', in the pinned program and in every row, IS THE sha256 OF THE DUMP (.gsa) THAT YtofjfpnkdcpngaaProg.lean LOADS. Nothing in Lean hashes anything: it is a label: what it is worth is what the hold of that sum in a sandbox is worth. -/
noncomputable def Try.pinned : Pinned := { name := "ytofjfpnkdcpngaa", sum := "fc2c515f20c06d1677822c44f8fa5f6e0da7e993427413f611b0b4ee74c3469d", checked := Try.checked }
namespace Rows
def none {H : Type} : Left H := { results := [], args := [] }

/-- 'midstreamlaw05.MacTags': WHATEVER THE INPUT: true; the input reads as it did. -/
def macTagsSpec : ChangeSpec := { name := "macTags", fn := fun _ => fun
  | [d1, d2] => { results := [.lit (.bool true)], args := [d1, d2] }
  | _ => none }
def macTagsRow : OpenClaim := { program := "ytofjfpnkdcpngaa", sum := "fc2c515f20c06d1677822c44f8fa5f6e0da7e993427413f611b0b4ee74c3469d", func := "midstream/midstreamlaw05.MacTags", spec := "macTags", apart := false }
def MacTagsSaid : Prop := macTagsRow.holds Try.pinned (OpenSpec.ofChange macTagsSpec)

/-- ITS FALSE NEIGHBOUR: 'it returns false'. Refute it at one input. -/
def macTagsWrong : ChangeSpec := { name := "macTags", fn := fun _ => fun
  | [d1, d2] => { results := [.lit (.bool false)], args := [d1, d2] }
  | _ => none }
def MacTagsWrongFalsely : Prop := macTagsRow.holds Try.pinned (OpenSpec.ofChange macTagsWrong)

/-- 'midstreamlaw05.MacOnly': WHATEVER THE INPUT: true; the input reads as it did. -/
def macOnlySpec : ChangeSpec := { name := "macOnly", fn := fun _ => fun
  | [d1, d2] => { results := [.lit (.bool true)], args := [d1, d2] }
  | _ => none }
def macOnlyRow : OpenClaim := { program := "ytofjfpnkdcpngaa", sum := "fc2c515f20c06d1677822c44f8fa5f6e0da7e993427413f611b0b4ee74c3469d", func := "midstream/midstreamlaw05.MacOnly", spec := "macOnly", apart := false }
def MacOnlySaid : Prop := macOnlyRow.holds Try.pinned (OpenSpec.ofChange macOnlySpec)

/-- ITS FALSE NEIGHBOUR: 'it returns false'. Refute it at one input. -/
def macOnlyWrong : ChangeSpec := { name := "macOnly", fn := fun _ => fun
  | [d1, d2] => { results := [.lit (.bool false)], args := [d1, d2] }
  | _ => none }
def MacOnlyWrongFalsely : Prop := macOnlyRow.holds Try.pinned (OpenSpec.ofChange macOnlyWrong)

/-- 'midstreamlaw05.MacKeys': WHATEVER THE INPUT: true; the input reads as it did. -/
def macKeysSpec : ChangeSpec := { name := "macKeys", fn := fun _ => fun
  | [d1, d2, d3] => { results := [.lit (.bool true)], args := [d1, d2, d3] }
  | _ => none }
def macKeysRow : OpenClaim := { program := "ytofjfpnkdcpngaa", sum := "fc2c515f20c06d1677822c44f8fa5f6e0da7e993427413f611b0b4ee74c3469d", func := "midstream/midstreamlaw05.MacKeys", spec := "macKeys", apart := false }
def MacKeysSaid : Prop := macKeysRow.holds Try.pinned (OpenSpec.ofChange macKeysSpec)

/-- ITS FALSE NEIGHBOUR: 'it returns false'. Refute it at one input. -/
def macKeysWrong : ChangeSpec := { name := "macKeys", fn := fun _ => fun
  | [d1, d2, d3] => { results := [.lit (.bool false)], args := [d1, d2, d3] }
  | _ => none }
def MacKeysWrongFalsely : Prop := macKeysRow.holds Try.pinned (OpenSpec.ofChange macKeysWrong)

/-- 'midstreamlaw05.MacTwice': WHATEVER THE INPUT: true; the input reads as it did. -/
def macTwiceSpec : ChangeSpec := { name := "macTwice", fn := fun _ => fun
  | [d1, d2] => { results := [.lit (.bool true)], args := [d1, d2] }
  | _ => none }
def macTwiceRow : OpenClaim := { program := "ytofjfpnkdcpngaa", sum := "fc2c515f20c06d1677822c44f8fa5f6e0da7e993427413f611b0b4ee74c3469d", func := "midstream/midstreamlaw05.MacTwice", spec := "macTwice", apart := false }
def MacTwiceSaid : Prop := macTwiceRow.holds Try.pinned (OpenSpec.ofChange macTwiceSpec)

/-- ITS FALSE NEIGHBOUR: 'it returns false'. Refute it at one input. -/
def macTwiceWrong : ChangeSpec := { name := "macTwice", fn := fun _ => fun
  | [d1, d2] => { results := [.lit (.bool false)], args := [d1, d2] }
  | _ => none }
def MacTwiceWrongFalsely : Prop := macTwiceRow.holds Try.pinned (OpenSpec.ofChange macTwiceWrong)

/-- 'midstreamlaw05.MacSeals': WHATEVER THE INPUT: true; the input reads as it did. -/
def macSealsSpec : ChangeSpec := { name := "macSeals", fn := fun _ => fun
  | [d1, d2, d3] => { results := [.lit (.bool true)], args := [d1, d2, d3] }
  | _ => none }
def macSealsRow : OpenClaim := { program := "ytofjfpnkdcpngaa", sum := "fc2c515f20c06d1677822c44f8fa5f6e0da7e993427413f611b0b4ee74c3469d", func := "midstream/midstreamlaw05.MacSeals", spec := "macSeals", apart := false }
def MacSealsSaid : Prop := macSealsRow.holds Try.pinned (OpenSpec.ofChange macSealsSpec)

/-- ITS FALSE NEIGHBOUR: 'it returns false'. Refute it at one input. -/
def macSealsWrong : ChangeSpec := { name := "macSeals", fn := fun _ => fun
  | [d1, d2, d3] => { results := [.lit (.bool false)], args := [d1, d2, d3] }
  | _ => none }
def MacSealsWrongFalsely : Prop := macSealsRow.holds Try.pinned (OpenSpec.ofChange macSealsWrong)

/-- 'midstreamlaw05.MacBack': WHATEVER THE INPUT: true; the input reads as it did. -/
def macBackSpec : ChangeSpec := { name := "macBack", fn := fun _ => fun
  | [d1, d2] => { results := [.lit (.bool true)], args := [d1, d2] }
  | _ => none }
def macBackRow : OpenClaim := { program := "ytofjfpnkdcpngaa", sum := "fc2c515f20c06d1677822c44f8fa5f6e0da7e993427413f611b0b4ee74c3469d", func := "midstream/midstreamlaw05.MacBack", spec := "macBack", apart := false }
def MacBackSaid : Prop := macBackRow.holds Try.pinned (OpenSpec.ofChange macBackSpec)

/-- ITS FALSE NEIGHBOUR: 'it returns false'. Refute it at one input. -/
def macBackWrong : ChangeSpec := { name := "macBack", fn := fun _ => fun
  | [d1, d2] => { results := [.lit (.bool false)], args := [d1, d2] }
  | _ => none }
def MacBackWrongFalsely : Prop := macBackRow.holds Try.pinned (OpenSpec.ofChange macBackWrong)

/- THE SECOND FORM. 'bulk': how many values and letters a reading holds, each counted each time it is reached (what is shared counts as often as it is met; a slice's spare places count too). A statement '..UptoSaid' is the law's where the arguments, and the package variables that the reading takes, are together of bulk at most 1048576: NARROWER than '..Said'. Prove '..Said' where nothing that the law and all that it calls make is longer than what came in: it says more and counts as full. Else prove '..UptoSaid'. A law counts once. -/
mutual
def uptoBulk {H : Type} : DataW H → Nat
  | .lit (.string bytes) => bytes.length + 1
  | .lit _ => 1
  | .nil => 1
  | .ptr d => uptoBulk d + 1
  | .slice elems spare => uptoBulkAll elems + uptoBulkAll spare + 1
  | .agg parts => uptoBulkAll parts + 1
  | .iface _ d => uptoBulk d + 1
  | .map entries => uptoBulkEntries entries + 1
  | .held _ => 1
def uptoBulkAll {H : Type} : List (DataW H) → Nat
  | [] => 0
  | d :: r => uptoBulk d + uptoBulkAll r
def uptoBulkEntries {H : Type} : List (Lit × DataW H) → Nat
  | [] => 0
  | x :: r => uptoBulkEntry x + uptoBulkEntries r
def uptoBulkEntry {H : Type} : Lit × DataW H → Nat
  | (.string bytes, d) => bytes.length + uptoBulk d + 1
  | (_, d) => uptoBulk d + 1
 end
def uptoSmall : (H : Type) → List (DataW H) → Bool := fun _ ds => decide (uptoBulkAll ds ≤ 1048576)
def OpenSpec.upto (s : _root_.Go.ChangeSpec) : _root_.Go.OpenSpec := { _root_.Go.OpenSpec.ofChange s with cond := some uptoSmall }

/-- 'midstreamlaw05.MacTags', WHERE WHAT IT READS IS OF BULK AT MOST 1048576: true; the input reads as it did. -/
def macTagsUptoRow : OpenClaim := { program := "ytofjfpnkdcpngaa", sum := "fc2c515f20c06d1677822c44f8fa5f6e0da7e993427413f611b0b4ee74c3469d", func := "midstream/midstreamlaw05.MacTags", spec := "macTags", apart := false, narrowed := true }
def MacTagsUptoSaid : Prop := macTagsUptoRow.holds Try.pinned (OpenSpec.upto macTagsSpec)

/-- 'midstreamlaw05.MacOnly', WHERE WHAT IT READS IS OF BULK AT MOST 1048576: true; the input reads as it did. -/
def macOnlyUptoRow : OpenClaim := { program := "ytofjfpnkdcpngaa", sum := "fc2c515f20c06d1677822c44f8fa5f6e0da7e993427413f611b0b4ee74c3469d", func := "midstream/midstreamlaw05.MacOnly", spec := "macOnly", apart := false, narrowed := true }
def MacOnlyUptoSaid : Prop := macOnlyUptoRow.holds Try.pinned (OpenSpec.upto macOnlySpec)

/-- 'midstreamlaw05.MacKeys', WHERE WHAT IT READS IS OF BULK AT MOST 1048576: true; the input reads as it did. -/
def macKeysUptoRow : OpenClaim := { program := "ytofjfpnkdcpngaa", sum := "fc2c515f20c06d1677822c44f8fa5f6e0da7e993427413f611b0b4ee74c3469d", func := "midstream/midstreamlaw05.MacKeys", spec := "macKeys", apart := false, narrowed := true }
def MacKeysUptoSaid : Prop := macKeysUptoRow.holds Try.pinned (OpenSpec.upto macKeysSpec)

/-- 'midstreamlaw05.MacTwice', WHERE WHAT IT READS IS OF BULK AT MOST 1048576: true; the input reads as it did. -/
def macTwiceUptoRow : OpenClaim := { program := "ytofjfpnkdcpngaa", sum := "fc2c515f20c06d1677822c44f8fa5f6e0da7e993427413f611b0b4ee74c3469d", func := "midstream/midstreamlaw05.MacTwice", spec := "macTwice", apart := false, narrowed := true }
def MacTwiceUptoSaid : Prop := macTwiceUptoRow.holds Try.pinned (OpenSpec.upto macTwiceSpec)

/-- 'midstreamlaw05.MacSeals', WHERE WHAT IT READS IS OF BULK AT MOST 1048576: true; the input reads as it did. -/
def macSealsUptoRow : OpenClaim := { program := "ytofjfpnkdcpngaa", sum := "fc2c515f20c06d1677822c44f8fa5f6e0da7e993427413f611b0b4ee74c3469d", func := "midstream/midstreamlaw05.MacSeals", spec := "macSeals", apart := false, narrowed := true }
def MacSealsUptoSaid : Prop := macSealsUptoRow.holds Try.pinned (OpenSpec.upto macSealsSpec)

/-- 'midstreamlaw05.MacBack', WHERE WHAT IT READS IS OF BULK AT MOST 1048576: true; the input reads as it did. -/
def macBackUptoRow : OpenClaim := { program := "ytofjfpnkdcpngaa", sum := "fc2c515f20c06d1677822c44f8fa5f6e0da7e993427413f611b0b4ee74c3469d", func := "midstream/midstreamlaw05.MacBack", spec := "macBack", apart := false, narrowed := true }
def MacBackUptoSaid : Prop := macBackUptoRow.holds Try.pinned (OpenSpec.upto macBackSpec)

end Rows
end Go.Proofs.Ytofjfpnkdcpngaa
