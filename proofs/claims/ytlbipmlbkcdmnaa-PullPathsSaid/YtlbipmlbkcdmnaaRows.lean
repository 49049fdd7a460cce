/-
  No cell of these rows narrows 'for every input' (looked for: loops, veiled, ifaces, maps, wideKeys, modest, calm, conditions, laid).
  DERIVED. THE GIVEN ROWS OF THIS SEAT. 12 by the template 'for every input the law returns true; each argument reads behind the call as it read before'; 0 by the template 'total and deterministic' (their statements: YtlbipmlbkcdmnaaTotals.lean).
  GIVEN WITH THE SEED: the statements are not yours to turn. If you find one false, say at which input.
  Laid BY PROGRAM, IN A SANDBOX (cutbox-rows.mjs): the forced cells as the released guide's own fill.sh prints them over the translation 50515d311493454c… (all of the seat's roots in one cut). By AI agents, Wed Nov 11 2026. No macro, syntax, notation, axiom, sorry.
-/
import Derived.Test.YtlbipmlbkcdmnaaChecked
import GoSem.Claim
import GoSem.ClaimJoined
import GoSem.ClaimMapViews
import Derived.JoinedTies
import Derived.KernelRfl
namespace Go.Proofs.Ytlbipmlbkcdmnaa
/- THE CELL 'sum', in the pinned program and in every row, IS THE sha256 OF THE DUMP (.gsa) THAT YtlbipmlbkcdmnaaProg.lean LOADS. Nothing in Lean hashes anything: it is a label: what it is worth is what the hold of that sum in a sandbox is worth. -/
noncomputable def Try.pinned : Pinned := { name := "ytlbipmlbkcdmnaa", sum := "50515d311493454cf7f5ee1143684369b072e78f243ff30f57da1b081ad33b6c", checked := Try.checked }
namespace Rows
def none {H : Type} : Left H := { results := [], args := [] }

/-- 'mudlarklaw20.TreePaths': WHATEVER THE INPUT: true; the input reads as it did. -/
def treePathsSpec : ChangeSpec := { name := "treePaths", fn := fun _ => fun
  | [d1, d2] => { results := [.lit (.bool true)], args := [d1, d2] }
  | _ => none }
def treePathsRow : OpenClaim := { program := "ytlbipmlbkcdmnaa", sum := "50515d311493454cf7f5ee1143684369b072e78f243ff30f57da1b081ad33b6c", func := "mudlark/mudlarklaw20.TreePaths", spec := "treePaths", inPlace := ["slices.overlaps[mudlark/api.Node]", "internal/bytealg.IndexByteString", "internal/bytealg.IndexString", "internal/abi.NoEscape", "internal/bytealg.MakeNoZero"], unfollowed := true, recurses := true, named := ["internal/bytealg.MaxLen"], apart := false }
def TreePathsSaid : Prop := treePathsRow.holds Try.pinned (OpenSpec.ofChange treePathsSpec)

/-- ITS FALSE NEIGHBOUR: 'it returns false'. Refute it at one input. -/
def treePathsWrong : ChangeSpec := { name := "treePaths", fn := fun _ => fun
  | [d1, d2] => { results := [.lit (.bool false)], args := [d1, d2] }
  | _ => none }
def TreePathsWrongFalsely : Prop := treePathsRow.holds Try.pinned (OpenSpec.ofChange treePathsWrong)

/-- 'mudlarklaw20.TreeAsks': WHATEVER THE INPUT: true; the input reads as it did. -/
def treeAsksSpec : ChangeSpec := { name := "treeAsks", fn := fun _ => fun
  | [d1, d2, d3, d4, d5, d6] => { results := [.lit (.bool true)], args := [d1, d2, d3, d4, d5, d6] }
  | _ => none }
def treeAsksRow : OpenClaim := { program := "ytlbipmlbkcdmnaa", sum := "50515d311493454cf7f5ee1143684369b072e78f243ff30f57da1b081ad33b6c", func := "mudlark/mudlarklaw20.TreeAsks", spec := "treeAsks", inPlace := ["slices.overlaps[mudlark/api.Node]", "internal/bytealg.IndexByteString", "internal/bytealg.IndexString", "internal/abi.NoEscape", "internal/bytealg.MakeNoZero"], unfollowed := true, recurses := true, named := ["internal/bytealg.MaxLen"], apart := false }
def TreeAsksSaid : Prop := treeAsksRow.holds Try.pinned (OpenSpec.ofChange treeAsksSpec)

/-- ITS FALSE NEIGHBOUR: 'it returns false'. Refute it at one input. -/
def treeAsksWrong : ChangeSpec := { name := "treeAsks", fn := fun _ => fun
  | [d1, d2, d3, d4, d5, d6] => { results := [.lit (.bool false)], args := [d1, d2, d3, d4, d5, d6] }
  | _ => none }
def TreeAsksWrongFalsely : Prop := treeAsksRow.holds Try.pinned (OpenSpec.ofChange treeAsksWrong)

/-- 'mudlarklaw20.TreeChanges': WHATEVER THE INPUT: true; the input reads as it did. -/
def treeChangesSpec : ChangeSpec := { name := "treeChanges", fn := fun _ => fun
  | [d1, d2, d3, d4, d5] => { results := [.lit (.bool true)], args := [d1, d2, d3, d4, d5] }
  | _ => none }
def treeChangesRow : OpenClaim := { program := "ytlbipmlbkcdmnaa", sum := "50515d311493454cf7f5ee1143684369b072e78f243ff30f57da1b081ad33b6c", func := "mudlark/mudlarklaw20.TreeChanges", spec := "treeChanges", inPlace := ["slices.overlaps[mudlark/api.Node]", "internal/bytealg.IndexByteString", "internal/bytealg.IndexString", "internal/abi.NoEscape", "internal/bytealg.MakeNoZero"], unfollowed := true, recurses := true, named := ["internal/bytealg.MaxLen"], apart := false }
def TreeChangesSaid : Prop := treeChangesRow.holds Try.pinned (OpenSpec.ofChange treeChangesSpec)

/-- ITS FALSE NEIGHBOUR: 'it returns false'. Refute it at one input. -/
def treeChangesWrong : ChangeSpec := { name := "treeChanges", fn := fun _ => fun
  | [d1, d2, d3, d4, d5] => { results := [.lit (.bool false)], args := [d1, d2, d3, d4, d5] }
  | _ => none }
def TreeChangesWrongFalsely : Prop := treeChangesRow.holds Try.pinned (OpenSpec.ofChange treeChangesWrong)

/-- 'mudlarklaw20.TreeRight': WHATEVER THE INPUT: true; the input reads as it did. -/
def treeRightSpec : ChangeSpec := { name := "treeRight", fn := fun _ => fun
  | [d1, d2] => { results := [.lit (.bool true)], args := [d1, d2] }
  | _ => none }
def treeRightRow : OpenClaim := { program := "ytlbipmlbkcdmnaa", sum := "50515d311493454cf7f5ee1143684369b072e78f243ff30f57da1b081ad33b6c", func := "mudlark/mudlarklaw20.TreeRight", spec := "treeRight", inPlace := ["slices.overlaps[mudlark/api.Node]", "internal/bytealg.IndexByteString", "internal/bytealg.IndexString", "internal/abi.NoEscape", "internal/bytealg.MakeNoZero"], unfollowed := true, recurses := true, named := ["internal/bytealg.MaxLen"], apart := false }
def TreeRightSaid : Prop := treeRightRow.holds Try.pinned (OpenSpec.ofChange treeRightSpec)

/-- ITS FALSE NEIGHBOUR: 'it returns false'. Refute it at one input. -/
def treeRightWrong : ChangeSpec := { name := "treeRight", fn := fun _ => fun
  | [d1, d2] => { results := [.lit (.bool false)], args := [d1, d2] }
  | _ => none }
def TreeRightWrongFalsely : Prop := treeRightRow.holds Try.pinned (OpenSpec.ofChange treeRightWrong)

/-- 'mudlarklaw20.TreeParts': WHATEVER THE INPUT: true; the input reads as it did. -/
def treePartsSpec : ChangeSpec := { name := "treeParts", fn := fun _ => fun
  | [d1, d2] => { results := [.lit (.bool true)], args := [d1, d2] }
  | _ => none }
def treePartsRow : OpenClaim := { program := "ytlbipmlbkcdmnaa", sum := "50515d311493454cf7f5ee1143684369b072e78f243ff30f57da1b081ad33b6c", func := "mudlark/mudlarklaw20.TreeParts", spec := "treeParts", inPlace := ["slices.overlaps[mudlark/api.Node]", "internal/bytealg.IndexByteString", "internal/bytealg.IndexString", "internal/abi.NoEscape", "internal/bytealg.MakeNoZero"], unfollowed := true, recurses := true, named := ["internal/bytealg.MaxLen"], apart := false }
def TreePartsSaid : Prop := treePartsRow.holds Try.pinned (OpenSpec.ofChange treePartsSpec)

/-- ITS FALSE NEIGHBOUR: 'it returns false'. Refute it at one input. -/
def treePartsWrong : ChangeSpec := { name := "treeParts", fn := fun _ => fun
  | [d1, d2] => { results := [.lit (.bool false)], args := [d1, d2] }
  | _ => none }
def TreePartsWrongFalsely : Prop := treePartsRow.holds Try.pinned (OpenSpec.ofChange treePartsWrong)

/-- 'mudlarklaw20.TreeBack': WHATEVER THE INPUT: true; the input reads as it did. -/
def treeBackSpec : ChangeSpec := { name := "treeBack", fn := fun _ => fun
  | [d1, d2, d3] => { results := [.lit (.bool true)], args := [d1, d2, d3] }
  | _ => none }
def treeBackRow : OpenClaim := { program := "ytlbipmlbkcdmnaa", sum := "50515d311493454cf7f5ee1143684369b072e78f243ff30f57da1b081ad33b6c", func := "mudlark/mudlarklaw20.TreeBack", spec := "treeBack", inPlace := ["slices.overlaps[mudlark/api.Node]", "internal/bytealg.IndexByteString", "internal/bytealg.IndexString", "internal/abi.NoEscape", "internal/bytealg.MakeNoZero"], unfollowed := true, recurses := true, named := ["internal/bytealg.MaxLen"], apart := false }
def TreeBackSaid : Prop := treeBackRow.holds Try.pinned (OpenSpec.ofChange treeBackSpec)

/-- ITS FALSE NEIGHBOUR: 'it returns false'. Refute it at one input. -/
def treeBackWrong : ChangeSpec := { name := "treeBack", fn := fun _ => fun
  | [d1, d2, d3] => { results := [.lit (.bool false)], args := [d1, d2, d3] }
  | _ => none }
def TreeBackWrongFalsely : Prop := treeBackRow.holds Try.pinned (OpenSpec.ofChange treeBackWrong)

/-- 'mudlarklaw21.PullOrder': WHATEVER THE INPUT: true; the input reads as it did. -/
def pullOrderSpec : ChangeSpec := { name := "pullOrder", fn := fun _ => fun
  | [d1, d2, d3, d4] => { results := [.lit (.bool true)], args := [d1, d2, d3, d4] }
  | _ => none }
def pullOrderRow : OpenClaim := { program := "ytlbipmlbkcdmnaa", sum := "50515d311493454cf7f5ee1143684369b072e78f243ff30f57da1b081ad33b6c", func := "mudlark/mudlarklaw21.PullOrder", spec := "pullOrder", inPlace := ["internal/bytealg.IndexByteString", "internal/bytealg.IndexString", "internal/abi.NoEscape", "internal/bytealg.MakeNoZero", "slices.overlaps[mudlark/api.Node]"], unfollowed := true, recurses := true, named := ["internal/bytealg.MaxLen"], apart := false }
def PullOrderSaid : Prop := pullOrderRow.holds Try.pinned (OpenSpec.ofChange pullOrderSpec)

/-- ITS FALSE NEIGHBOUR: 'it returns false'. Refute it at one input. -/
def pullOrderWrong : ChangeSpec := { name := "pullOrder", fn := fun _ => fun
  | [d1, d2, d3, d4] => { results := [.lit (.bool false)], args := [d1, d2, d3, d4] }
  | _ => none }
def PullOrderWrongFalsely : Prop := pullOrderRow.holds Try.pinned (OpenSpec.ofChange pullOrderWrong)

/-- 'mudlarklaw21.PullAgain': WHATEVER THE INPUT: true; the input reads as it did. -/
def pullAgainSpec : ChangeSpec := { name := "pullAgain", fn := fun _ => fun
  | [d] => { results := [.lit (.bool true)], args := [d] }
  | _ => none }
def pullAgainRow : OpenClaim := { program := "ytlbipmlbkcdmnaa", sum := "50515d311493454cf7f5ee1143684369b072e78f243ff30f57da1b081ad33b6c", func := "mudlark/mudlarklaw21.PullAgain", spec := "pullAgain", inPlace := ["internal/bytealg.IndexByteString", "internal/bytealg.IndexString", "internal/abi.NoEscape", "internal/bytealg.MakeNoZero", "slices.overlaps[mudlark/api.Node]"], unfollowed := true, recurses := true, named := ["internal/bytealg.MaxLen"], apart := false }
def PullAgainSaid : Prop := pullAgainRow.holds Try.pinned (OpenSpec.ofChange pullAgainSpec)

/-- ITS FALSE NEIGHBOUR: 'it returns false'. Refute it at one input. -/
def pullAgainWrong : ChangeSpec := { name := "pullAgain", fn := fun _ => fun
  | [d] => { results := [.lit (.bool false)], args := [d] }
  | _ => none }
def PullAgainWrongFalsely : Prop := pullAgainRow.holds Try.pinned (OpenSpec.ofChange pullAgainWrong)

/-- 'mudlarklaw21.PullPaths': WHATEVER THE INPUT: true; the input reads as it did. -/
def pullPathsSpec : ChangeSpec := { name := "pullPaths", fn := fun _ => fun
  | [d1, d2, d3, d4, d5, d6, d7] => { results := [.lit (.bool true)], args := [d1, d2, d3, d4, d5, d6, d7] }
  | _ => none }
def pullPathsRow : OpenClaim := { program := "ytlbipmlbkcdmnaa", sum := "50515d311493454cf7f5ee1143684369b072e78f243ff30f57da1b081ad33b6c", func := "mudlark/mudlarklaw21.PullPaths", spec := "pullPaths", inPlace := ["internal/bytealg.IndexByteString", "internal/bytealg.IndexString", "internal/abi.NoEscape", "internal/bytealg.MakeNoZero", "slices.overlaps[mudlark/api.Node]"], unfollowed := true, recurses := true, named := ["internal/bytealg.MaxLen"], apart := false }
def PullPathsSaid : Prop := pullPathsRow.holds Try.pinned (OpenSpec.ofChange pullPathsSpec)

/-- ITS FALSE NEIGHBOUR: 'it returns false'. Refute it at one input. -/
def pullPathsWrong : ChangeSpec := { name := "pullPaths", fn := fun _ => fun
  | [d1, d2, d3, d4, d5, d6, d7] => { results := [.lit (.bool false)], args := [d1, d2, d3, d4, d5, d6, d7] }
  | _ => none }
def PullPathsWrongFalsely : Prop := pullPathsRow.holds Try.pinned (OpenSpec.ofChange pullPathsWrong)

/-- 'mudlarklaw21.PullBelow': WHATEVER THE INPUT: true; the input reads as it did. -/
def pullBelowSpec : ChangeSpec := { name := "pullBelow", fn := fun _ => fun
  | [d1, d2, d3] => { results := [.lit (.bool true)], args := [d1, d2, d3] }
  | _ => none }
def pullBelowRow : OpenClaim := { program := "ytlbipmlbkcdmnaa", sum := "50515d311493454cf7f5ee1143684369b072e78f243ff30f57da1b081ad33b6c", func := "mudlark/mudlarklaw21.PullBelow", spec := "pullBelow", inPlace := ["internal/bytealg.IndexByteString", "internal/bytealg.IndexString", "internal/abi.NoEscape", "internal/bytealg.MakeNoZero", "slices.overlaps[mudlark/api.Node]"], unfollowed := true, recurses := true, named := ["internal/bytealg.MaxLen"], apart := false }
def PullBelowSaid : Prop := pullBelowRow.holds Try.pinned (OpenSpec.ofChange pullBelowSpec)

/-- ITS FALSE NEIGHBOUR: 'it returns false'. Refute it at one input. -/
def pullBelowWrong : ChangeSpec := { name := "pullBelow", fn := fun _ => fun
  | [d1, d2, d3] => { results := [.lit (.bool false)], args := [d1, d2, d3] }
  | _ => none }
def PullBelowWrongFalsely : Prop := pullBelowRow.holds Try.pinned (OpenSpec.ofChange pullBelowWrong)

/-- 'mudlarklaw21.PullLinks': WHATEVER THE INPUT: true; the input reads as it did. -/
def pullLinksSpec : ChangeSpec := { name := "pullLinks", fn := fun _ => fun
  | [d1, d2, d3] => { results := [.lit (.bool true)], args := [d1, d2, d3] }
  | _ => none }
def pullLinksRow : OpenClaim := { program := "ytlbipmlbkcdmnaa", sum := "50515d311493454cf7f5ee1143684369b072e78f243ff30f57da1b081ad33b6c", func := "mudlark/mudlarklaw21.PullLinks", spec := "pullLinks", inPlace := ["internal/bytealg.IndexByteString", "internal/bytealg.IndexString", "internal/abi.NoEscape", "internal/bytealg.MakeNoZero", "slices.overlaps[mudlark/api.Node]"], unfollowed := true, recurses := true, named := ["internal/bytealg.MaxLen"], apart := false }
def PullLinksSaid : Prop := pullLinksRow.holds Try.pinned (OpenSpec.ofChange pullLinksSpec)

/-- ITS FALSE NEIGHBOUR: 'it returns false'. Refute it at one input. -/
def pullLinksWrong : ChangeSpec := { name := "pullLinks", fn := fun _ => fun
  | [d1, d2, d3] => { results := [.lit (.bool false)], args := [d1, d2, d3] }
  | _ => none }
def PullLinksWrongFalsely : Prop := pullLinksRow.holds Try.pinned (OpenSpec.ofChange pullLinksWrong)

/-- 'mudlarklaw21.PullWhere': WHATEVER THE INPUT: true; the input reads as it did. -/
def pullWhereSpec : ChangeSpec := { name := "pullWhere", fn := fun _ => fun
  | [d1, d2] => { results := [.lit (.bool true)], args := [d1, d2] }
  | _ => none }
def pullWhereRow : OpenClaim := { program := "ytlbipmlbkcdmnaa", sum := "50515d311493454cf7f5ee1143684369b072e78f243ff30f57da1b081ad33b6c", func := "mudlark/mudlarklaw21.PullWhere", spec := "pullWhere", inPlace := ["internal/bytealg.IndexByteString", "internal/bytealg.IndexString", "internal/abi.NoEscape", "internal/bytealg.MakeNoZero", "slices.overlaps[mudlark/api.Node]"], unfollowed := true, recurses := true, named := ["internal/bytealg.MaxLen"], apart := false }
def PullWhereSaid : Prop := pullWhereRow.holds Try.pinned (OpenSpec.ofChange pullWhereSpec)

/-- ITS FALSE NEIGHBOUR: 'it returns false'. Refute it at one input. -/
def pullWhereWrong : ChangeSpec := { name := "pullWhere", fn := fun _ => fun
  | [d1, d2] => { results := [.lit (.bool false)], args := [d1, d2] }
  | _ => none }
def PullWhereWrongFalsely : Prop := pullWhereRow.holds Try.pinned (OpenSpec.ofChange pullWhereWrong)

/- THE SECOND FORM. 'bulk': how many values and letters a reading holds, each counted each time it is reached (what is shared counts as often as it is met; a slice's spare places count too). A statement '..UptoSaid' is the law's where the arguments, and the package variables that the reading takes, are together of bulk at most 1048576: NARROWER than '..Said'. Prove '..Said' where nothing that the law and all that it calls make is longer than what came in: it says more and counts as full. Else prove '..UptoSaid'. A law counts once. -/
mutual
def uptoBulk {H : Type} : DataW H → Nat
  | .lit (.string bytes) => bytes.length + 1
  | .lit _ => 1
  | .nil => 1
  | .ptr d => uptoBulk d + 1
  | .slice elems spare => uptoBulkAll elems + uptoBulkAll spare + 1
  | .agg parts => uptoBulkAll parts + 1
  | .iface _ d => uptoBulk d + 1
  | .map entries => uptoBulkEntries entries + 1
  | .held _ => 1
def uptoBulkAll {H : Type} : List (DataW H) → Nat
  | [] => 0
  | d :: r => uptoBulk d + uptoBulkAll r
def uptoBulkEntries {H : Type} : List (Lit × DataW H) → Nat
  | [] => 0
  | x :: r => uptoBulkEntry x + uptoBulkEntries r
def uptoBulkEntry {H : Type} : Lit × DataW H → Nat
  | (.string bytes, d) => bytes.length + uptoBulk d + 1
  | (_, d) => uptoBulk d + 1
 end
def uptoSmall : (H : Type) → List (DataW H) → Bool := fun _ ds => decide (uptoBulkAll ds ≤ 1048576)
def OpenSpec.upto (s : _root_.Go.ChangeSpec) : _root_.Go.OpenSpec := { _root_.Go.OpenSpec.ofChange s with cond := some uptoSmall }

/-- 'mudlarklaw20.TreePaths', WHERE WHAT IT READS IS OF BULK AT MOST 1048576: true; the input reads as it did. -/
def treePathsUptoRow : OpenClaim := { program := "ytlbipmlbkcdmnaa", sum := "50515d311493454cf7f5ee1143684369b072e78f243ff30f57da1b081ad33b6c", func := "mudlark/mudlarklaw20.TreePaths", spec := "treePaths", inPlace := ["slices.overlaps[mudlark/api.Node]", "internal/bytealg.IndexByteString", "internal/bytealg.IndexString", "internal/abi.NoEscape", "internal/bytealg.MakeNoZero"], unfollowed := true, recurses := true, named := ["internal/bytealg.MaxLen"], apart := false, narrowed := true }
def TreePathsUptoSaid : Prop := treePathsUptoRow.holds Try.pinned (OpenSpec.upto treePathsSpec)

/-- 'mudlarklaw20.TreeAsks', WHERE WHAT IT READS IS OF BULK AT MOST 1048576: true; the input reads as it did. -/
def treeAsksUptoRow : OpenClaim := { program := "ytlbipmlbkcdmnaa", sum := "50515d311493454cf7f5ee1143684369b072e78f243ff30f57da1b081ad33b6c", func := "mudlark/mudlarklaw20.TreeAsks", spec := "treeAsks", inPlace := ["slices.overlaps[mudlark/api.Node]", "internal/bytealg.IndexByteString", "internal/bytealg.IndexString", "internal/abi.NoEscape", "internal/bytealg.MakeNoZero"], unfollowed := true, recurses := true, named := ["internal/bytealg.MaxLen"], apart := false, narrowed := true }
def TreeAsksUptoSaid : Prop := treeAsksUptoRow.holds Try.pinned (OpenSpec.upto treeAsksSpec)

/-- 'mudlarklaw20.TreeChanges', WHERE WHAT IT READS IS OF BULK AT MOST 1048576: true; the input reads as it did. -/
def treeChangesUptoRow : OpenClaim := { program := "ytlbipmlbkcdmnaa", sum := "50515d311493454cf7f5ee1143684369b072e78f243ff30f57da1b081ad33b6c", func := "mudlark/mudlarklaw20.TreeChanges", spec := "treeChanges", inPlace := ["slices.overlaps[mudlark/api.Node]", "internal/bytealg.IndexByteString", "internal/bytealg.IndexString", "internal/abi.NoEscape", "internal/bytealg.MakeNoZero"], unfollowed := true, recurses := true, named := ["internal/bytealg.MaxLen"], apart := false, narrowed := true }
def TreeChangesUptoSaid : Prop := treeChangesUptoRow.holds Try.pinned (OpenSpec.upto treeChangesSpec)

/-- 'mudlarklaw20.TreeRight', WHERE WHAT IT READS IS OF BULK AT MOST 1048576: true; the input reads as it did. -/
def treeRightUptoRow : OpenClaim := { program := "ytlbipmlbkcdmnaa", sum := "50515d311493454cf7f5ee1143684369b072e78f243ff30f57da1b081ad33b6c", func := "mudlark/mudlarklaw20.TreeRight", spec := "treeRight", inPlace := ["slices.overlaps[mudlark/api.Node]", "internal/bytealg.IndexByteString", "internal/bytealg.IndexString", "internal/abi.NoEscape", "internal/bytealg.MakeNoZero"], unfollowed := true, recurses := true, named := ["internal/bytealg.MaxLen"], apart := false, narrowed := true }
def TreeRightUptoSaid : Prop := treeRightUptoRow.holds Try.pinned (OpenSpec.upto treeRightSpec)

/-- 'mudlarklaw20.TreeParts', WHERE WHAT IT READS IS OF BULK AT MOST 1048576: true; the input reads as it did. -/
def treePartsUptoRow : OpenClaim := { program := "ytlbipmlbkcdmnaa", sum := "50515d311493454cf7f5ee1143684369b072e78f243ff30f57da1b081ad33b6c", func := "mudlark/mudlarklaw20.TreeParts", spec := "treeParts", inPlace := ["slices.overlaps[mudlark/api.Node]", "internal/bytealg.IndexByteString", "internal/bytealg.IndexString", "internal/abi.NoEscape", "internal/bytealg.MakeNoZero"], unfollowed := true, recurses := true, named := ["internal/bytealg.MaxLen"], apart := false, narrowed := true }
def TreePartsUptoSaid : Prop := treePartsUptoRow.holds Try.pinned (OpenSpec.upto treePartsSpec)

/-- 'mudlarklaw20.TreeBack', WHERE WHAT IT READS IS OF BULK AT MOST 1048576: true; the input reads as it did. -/
def treeBackUptoRow : OpenClaim := { program := "ytlbipmlbkcdmnaa", sum := "50515d311493454cf7f5ee1143684369b072e78f243ff30f57da1b081ad33b6c", func := "mudlark/mudlarklaw20.TreeBack", spec := "treeBack", inPlace := ["slices.overlaps[mudlark/api.Node]", "internal/bytealg.IndexByteString", "internal/bytealg.IndexString", "internal/abi.NoEscape", "internal/bytealg.MakeNoZero"], unfollowed := true, recurses := true, named := ["internal/bytealg.MaxLen"], apart := false, narrowed := true }
def TreeBackUptoSaid : Prop := treeBackUptoRow.holds Try.pinned (OpenSpec.upto treeBackSpec)

/-- 'mudlarklaw21.PullOrder', WHERE WHAT IT READS IS OF BULK AT MOST 1048576: true; the input reads as it did. -/
def pullOrderUptoRow : OpenClaim := { program := "ytlbipmlbkcdmnaa", sum := "50515d311493454cf7f5ee1143684369b072e78f243ff30f57da1b081ad33b6c", func := "mudlark/mudlarklaw21.PullOrder", spec := "pullOrder", inPlace := ["internal/bytealg.IndexByteString", "internal/bytealg.IndexString", "internal/abi.NoEscape", "internal/bytealg.MakeNoZero", "slices.overlaps[mudlark/api.Node]"], unfollowed := true, recurses := true, named := ["internal/bytealg.MaxLen"], apart := false, narrowed := true }
def PullOrderUptoSaid : Prop := pullOrderUptoRow.holds Try.pinned (OpenSpec.upto pullOrderSpec)

/-- 'mudlarklaw21.PullAgain', WHERE WHAT IT READS IS OF BULK AT MOST 1048576: true; the input reads as it did. -/
def pullAgainUptoRow : OpenClaim := { program := "ytlbipmlbkcdmnaa", sum := "50515d311493454cf7f5ee1143684369b072e78f243ff30f57da1b081ad33b6c", func := "mudlark/mudlarklaw21.PullAgain", spec := "pullAgain", inPlace := ["internal/bytealg.IndexByteString", "internal/bytealg.IndexString", "internal/abi.NoEscape", "internal/bytealg.MakeNoZero", "slices.overlaps[mudlark/api.Node]"], unfollowed := true, recurses := true, named := ["internal/bytealg.MaxLen"], apart := false, narrowed := true }
def PullAgainUptoSaid : Prop := pullAgainUptoRow.holds Try.pinned (OpenSpec.upto pullAgainSpec)

/-- 'mudlarklaw21.PullPaths', WHERE WHAT IT READS IS OF BULK AT MOST 1048576: true; the input reads as it did. -/
def pullPathsUptoRow : OpenClaim := { program := "ytlbipmlbkcdmnaa", sum := "50515d311493454cf7f5ee1143684369b072e78f243ff30f57da1b081ad33b6c", func := "mudlark/mudlarklaw21.PullPaths", spec := "pullPaths", inPlace := ["internal/bytealg.IndexByteString", "internal/bytealg.IndexString", "internal/abi.NoEscape", "internal/bytealg.MakeNoZero", "slices.overlaps[mudlark/api.Node]"], unfollowed := true, recurses := true, named := ["internal/bytealg.MaxLen"], apart := false, narrowed := true }
def PullPathsUptoSaid : Prop := pullPathsUptoRow.holds Try.pinned (OpenSpec.upto pullPathsSpec)

/-- 'mudlarklaw21.PullBelow', WHERE WHAT IT READS IS OF BULK AT MOST 1048576: true; the input reads as it did. -/
def pullBelowUptoRow : OpenClaim := { program := "ytlbipmlbkcdmnaa", sum := "50515d311493454cf7f5ee1143684369b072e78f243ff30f57da1b081ad33b6c", func := "mudlark/mudlarklaw21.PullBelow", spec := "pullBelow", inPlace := ["internal/bytealg.IndexByteString", "internal/bytealg.IndexString", "internal/abi.NoEscape", "internal/bytealg.MakeNoZero", "slices.overlaps[mudlark/api.Node]"], unfollowed := true, recurses := true, named := ["internal/bytealg.MaxLen"], apart := false, narrowed := true }
def PullBelowUptoSaid : Prop := pullBelowUptoRow.holds Try.pinned (OpenSpec.upto pullBelowSpec)

/-- 'mudlarklaw21.PullLinks', WHERE WHAT IT READS IS OF BULK AT MOST 1048576: true; the input reads as it did. -/
def pullLinksUptoRow : OpenClaim := { program := "ytlbipmlbkcdmnaa", sum := "50515d311493454cf7f5ee1143684369b072e78f243ff30f57da1b081ad33b6c", func := "mudlark/mudlarklaw21.PullLinks", spec := "pullLinks", inPlace := ["internal/bytealg.IndexByteString", "internal/bytealg.IndexString", "internal/abi.NoEscape", "internal/bytealg.MakeNoZero", "slices.overlaps[mudlark/api.Node]"], unfollowed := true, recurses := true, named := ["internal/bytealg.MaxLen"], apart := false, narrowed := true }
def PullLinksUptoSaid : Prop := pullLinksUptoRow.holds Try.pinned (OpenSpec.upto pullLinksSpec)

/-- 'mudlarklaw21.PullWhere', WHERE WHAT IT READS IS OF BULK AT MOST 1048576: true; the input reads as it did. -/
def pullWhereUptoRow : OpenClaim := { program := "ytlbipmlbkcdmnaa", sum := "50515d311493454cf7f5ee1143684369b072e78f243ff30f57da1b081ad33b6c", func := "mudlark/mudlarklaw21.PullWhere", spec := "pullWhere", inPlace := ["internal/bytealg.IndexByteString", "internal/bytealg.IndexString", "internal/abi.NoEscape", "internal/bytealg.MakeNoZero", "slices.overlaps[mudlark/api.Node]"], unfollowed := true, recurses := true, named := ["internal/bytealg.MaxLen"], apart := false, narrowed := true }
def PullWhereUptoSaid : Prop := pullWhereUptoRow.holds Try.pinned (OpenSpec.upto pullWhereSpec)

end Rows
end Go.Proofs.Ytlbipmlbkcdmnaa
