/-
  No cell of these rows narrows 'for every input' (looked for: loops, veiled, ifaces, maps, wideKeys, modest, calm, conditions, laid).
  DERIVED. THE GIVEN ROWS OF THIS SEAT. 4 by the template 'for every input the law returns true; each argument reads behind the call as it read before'; 0 by the template 'total and deterministic' (their statements: YteejjgnpjkldiaaTotals.lean).
  GIVEN WITH THE SEED: the statements are not yours to turn. If you find one false, say at which input.
  Laid BY PROGRAM, IN A SANDBOX (cutbox-rows.mjs): the forced cells as the released guide's own fill.sh prints them over the translation 17a3c5bf6fac250e… (all of the seat's roots in one cut). By AI agents, Wed Nov 11 2026. No macro, syntax, notation, axiom, sorry.
-/
import Derived.Test.YteejjgnpjkldiaaChecked
import GoSem.Claim
import GoSem.ClaimJoined
import GoSem.ClaimMapViews
import Derived.JoinedTies
import Derived.KernelRfl
namespace Go.Proofs.Yteejjgnpjkldiaa
/- THE CELL 'sum', in the pinned program and in every row, IS THE sha256 OF THE DUMP (.gsa) THAT YteejjgnpjkldiaaProg.lean LOADS. Nothing in Lean hashes anything: it is a label: what it is worth is what the hold of that sum in a sandbox is worth. -/
noncomputable def Try.pinned : Pinned := { name := "yteejjgnpjkldiaa", sum := "17a3c5bf6fac250e30ae76f549cced89a980dca688868fa5cddf54867a14a960", checked := Try.checked }
namespace Rows
def none {H : Type} : Left H := { results := [], args := [] }

/-- 'mudlarklaw07.SinkPieces': WHATEVER THE INPUT: true; the input reads as it did. -/
def sinkPiecesSpec : ChangeSpec := { name := "sinkPieces", fn := fun _ => fun
  | [d1, d2, d3] => { results := [.lit (.bool true)], args := [d1, d2, d3] }
  | _ => none }
def sinkPiecesRow : OpenClaim := { program := "yteejjgnpjkldiaa", sum := "17a3c5bf6fac250e30ae76f549cced89a980dca688868fa5cddf54867a14a960", func := "mudlark/mudlarklaw07.SinkPieces", spec := "sinkPieces", apart := false }
def SinkPiecesSaid : Prop := sinkPiecesRow.holds Try.pinned (OpenSpec.ofChange sinkPiecesSpec)

/-- ITS FALSE NEIGHBOUR: 'it returns false'. Refute it at one input. -/
def sinkPiecesWrong : ChangeSpec := { name := "sinkPieces", fn := fun _ => fun
  | [d1, d2, d3] => { results := [.lit (.bool false)], args := [d1, d2, d3] }
  | _ => none }
def SinkPiecesWrongFalsely : Prop := sinkPiecesRow.holds Try.pinned (OpenSpec.ofChange sinkPiecesWrong)

/-- 'mudlarklaw07.SinkWrites': WHATEVER THE INPUT: true; the input reads as it did. -/
def sinkWritesSpec : ChangeSpec := { name := "sinkWrites", fn := fun _ => fun
  | [d1, d2, d3] => { results := [.lit (.bool true)], args := [d1, d2, d3] }
  | _ => none }
def sinkWritesRow : OpenClaim := { program := "yteejjgnpjkldiaa", sum := "17a3c5bf6fac250e30ae76f549cced89a980dca688868fa5cddf54867a14a960", func := "mudlark/mudlarklaw07.SinkWrites", spec := "sinkWrites", apart := false }
def SinkWritesSaid : Prop := sinkWritesRow.holds Try.pinned (OpenSpec.ofChange sinkWritesSpec)

/-- ITS FALSE NEIGHBOUR: 'it returns false'. Refute it at one input. -/
def sinkWritesWrong : ChangeSpec := { name := "sinkWrites", fn := fun _ => fun
  | [d1, d2, d3] => { results := [.lit (.bool false)], args := [d1, d2, d3] }
  | _ => none }
def SinkWritesWrongFalsely : Prop := sinkWritesRow.holds Try.pinned (OpenSpec.ofChange sinkWritesWrong)

/-- 'mudlarklaw07.SinkFront': WHATEVER THE INPUT: true; the input reads as it did. -/
def sinkFrontSpec : ChangeSpec := { name := "sinkFront", fn := fun _ => fun
  | [d1, d2] => { results := [.lit (.bool true)], args := [d1, d2] }
  | _ => none }
def sinkFrontRow : OpenClaim := { program := "yteejjgnpjkldiaa", sum := "17a3c5bf6fac250e30ae76f549cced89a980dca688868fa5cddf54867a14a960", func := "mudlark/mudlarklaw07.SinkFront", spec := "sinkFront", apart := false }
def SinkFrontSaid : Prop := sinkFrontRow.holds Try.pinned (OpenSpec.ofChange sinkFrontSpec)

/-- ITS FALSE NEIGHBOUR: 'it returns false'. Refute it at one input. -/
def sinkFrontWrong : ChangeSpec := { name := "sinkFront", fn := fun _ => fun
  | [d1, d2] => { results := [.lit (.bool false)], args := [d1, d2] }
  | _ => none }
def SinkFrontWrongFalsely : Prop := sinkFrontRow.holds Try.pinned (OpenSpec.ofChange sinkFrontWrong)

/-- 'mudlarklaw07.SinkNone': WHATEVER THE INPUT: true; the input reads as it did. -/
def sinkNoneSpec : ChangeSpec := { name := "sinkNone", fn := fun _ => fun
  | [d1, d2] => { results := [.lit (.bool true)], args := [d1, d2] }
  | _ => none }
def sinkNoneRow : OpenClaim := { program := "yteejjgnpjkldiaa", sum := "17a3c5bf6fac250e30ae76f549cced89a980dca688868fa5cddf54867a14a960", func := "mudlark/mudlarklaw07.SinkNone", spec := "sinkNone", apart := false }
def SinkNoneSaid : Prop := sinkNoneRow.holds Try.pinned (OpenSpec.ofChange sinkNoneSpec)

/-- ITS FALSE NEIGHBOUR: 'it returns false'. Refute it at one input. -/
def sinkNoneWrong : ChangeSpec := { name := "sinkNone", fn := fun _ => fun
  | [d1, d2] => { results := [.lit (.bool false)], args := [d1, d2] }
  | _ => none }
def SinkNoneWrongFalsely : Prop := sinkNoneRow.holds Try.pinned (OpenSpec.ofChange sinkNoneWrong)

/- THE SECOND FORM. 'bulk': how many values and letters a reading holds, each counted each time it is reached (what is shared counts as often as it is met; a slice's spare places count too). A statement '..UptoSaid' is the law's where the arguments, and the package variables that the reading takes, are together of bulk at most 1048576: NARROWER than '..Said'. Prove '..Said' where nothing that the law and all that it calls make is longer than what came in: it says more and counts as full. Else prove '..UptoSaid'. A law counts once. -/
mutual
def uptoBulk {H : Type} : DataW H → Nat
  | .lit (.string bytes) => bytes.length + 1
  | .lit _ => 1
  | .nil => 1
  | .ptr d => uptoBulk d + 1
  | .slice elems spare => uptoBulkAll elems + uptoBulkAll spare + 1
  | .agg parts => uptoBulkAll parts + 1
  | .iface _ d => uptoBulk d + 1
  | .map entries => uptoBulkEntries entries + 1
  | .held _ => 1
def uptoBulkAll {H : Type} : List (DataW H) → Nat
  | [] => 0
  | d :: r => uptoBulk d + uptoBulkAll r
def uptoBulkEntries {H : Type} : List (Lit × DataW H) → Nat
  | [] => 0
  | x :: r => uptoBulkEntry x + uptoBulkEntries r
def uptoBulkEntry {H : Type} : Lit × DataW H → Nat
  | (.string bytes, d) => bytes.length + uptoBulk d + 1
  | (_, d) => uptoBulk d + 1
 end
def uptoSmall : (H : Type) → List (DataW H) → Bool := fun _ ds => decide (uptoBulkAll ds ≤ 1048576)
def OpenSpec.upto (s : _root_.Go.ChangeSpec) : _root_.Go.OpenSpec := { _root_.Go.OpenSpec.ofChange s with cond := some uptoSmall }

/-- 'mudlarklaw07.SinkPieces', WHERE WHAT IT READS IS OF BULK AT MOST 1048576: true; the input reads as it did. -/
def sinkPiecesUptoRow : OpenClaim := { program := "yteejjgnpjkldiaa", sum := "17a3c5bf6fac250e30ae76f549cced89a980dca688868fa5cddf54867a14a960", func := "mudlark/mudlarklaw07.SinkPieces", spec := "sinkPieces", apart := false, narrowed := true }
def SinkPiecesUptoSaid : Prop := sinkPiecesUptoRow.holds Try.pinned (OpenSpec.upto sinkPiecesSpec)

/-- 'mudlarklaw07.SinkWrites', WHERE WHAT IT READS IS OF BULK AT MOST 1048576: true; the input reads as it did. -/
def sinkWritesUptoRow : OpenClaim := { program := "yteejjgnpjkldiaa", sum := "17a3c5bf6fac250e30ae76f549cced89a980dca688868fa5cddf54867a14a960", func := "mudlark/mudlarklaw07.SinkWrites", spec := "sinkWrites", apart := false, narrowed := true }
def SinkWritesUptoSaid : Prop := sinkWritesUptoRow.holds Try.pinned (OpenSpec.upto sinkWritesSpec)

/-- 'mudlarklaw07.SinkFront', WHERE WHAT IT READS IS OF BULK AT MOST 1048576: true; the input reads as it did. -/
def sinkFrontUptoRow : OpenClaim := { program := "yteejjgnpjkldiaa", sum := "17a3c5bf6fac250e30ae76f549cced89a980dca688868fa5cddf54867a14a960", func := "mudlark/mudlarklaw07.SinkFront", spec := "sinkFront", apart := false, narrowed := true }
def SinkFrontUptoSaid : Prop := sinkFrontUptoRow.holds Try.pinned (OpenSpec.upto sinkFrontSpec)

/-- 'mudlarklaw07.SinkNone', WHERE WHAT IT READS IS OF BULK AT MOST 1048576: true; the input reads as it did. -/
def sinkNoneUptoRow : OpenClaim := { program := "yteejjgnpjkldiaa", sum := "17a3c5bf6fac250e30ae76f549cced89a980dca688868fa5cddf54867a14a960", func := "mudlark/mudlarklaw07.SinkNone", spec := "sinkNone", apart := false, narrowed := true }
def SinkNoneUptoSaid : Prop := sinkNoneUptoRow.holds Try.pinned (OpenSpec.upto sinkNoneSpec)

end Rows
end Go.Proofs.Yteejjgnpjkldiaa
