/-
  No cell of these rows narrows 'for every input' (looked for: loops, veiled, ifaces, maps, wideKeys, modest, calm, conditions, laid).
  DERIVED. THE GIVEN ROWS OF THIS SEAT. 6 by the template 'for every input the law returns true; each argument reads behind the call as it read before'; 0 by the template 'total and deterministic' (their statements: YtoclbcpfiacoaaaTotals.lean).
  GIVEN WITH THE SEED: the statements are not yours to turn. If you find one false, say at which input.
  Laid BY PROGRAM, IN A SANDBOX (cutbox-rows.mjs): the forced cells as the released guide's own fill.sh prints them over the translation fb130f3754fc897f… (all of the seat's roots in one cut). By AI agents, Wed Nov 11 2026. No macro, syntax, notation, axiom, sorry.
-/
import Derived.Test.YtoclbcpfiacoaaaChecked
import GoSem.Claim
import GoSem.ClaimJoined
import GoSem.ClaimMapViews
import Derived.JoinedTies
import Derived.KernelRfl
namespace Go.Proofs.Ytoclbcpfiacoaaa
/- THE CELL 'sum', in the pinned program and in every row, IS THE sha256 OF THE DUMP (.gsa) THAT YtoclbcpfiacoaaaProg.lean LOADS. Nothing in Lean hashes anything: it is a label: what it is worth is what the hold of that sum in a sandbox is worth. -/
noncomputable def Try.pinned : Pinned := { name := "ytoclbcpfiacoaaa", sum := "fb130f3754fc897f0aa4114ab26c70a816f29affd9e71b3126d2396923490f6d", checked := Try.checked }
namespace Rows
def none {H : Type} : Left H := { results := [], args := [] }

/-- 'hatchwaylaw30.PartsCuts': WHATEVER THE INPUT: true; the input reads as it did. -/
def partsCutsSpec : ChangeSpec := { name := "partsCuts", fn := fun _ => fun
  | [d1, d2, d3] => { results := [.lit (.bool true)], args := [d1, d2, d3] }
  | _ => none }
def partsCutsRow : OpenClaim := { program := "ytoclbcpfiacoaaa", sum := "fb130f3754fc897f0aa4114ab26c70a816f29affd9e71b3126d2396923490f6d", func := "hatchway/hatchwaylaw30.PartsCuts", spec := "partsCuts", inPlace := ["internal/abi.NoEscape"], unfollowed := true, recurses := true, apart := false }
def PartsCutsSaid : Prop := partsCutsRow.holds Try.pinned (OpenSpec.ofChange partsCutsSpec)

/-- ITS FALSE NEIGHBOUR: 'it returns false'. Refute it at one input. -/
def partsCutsWrong : ChangeSpec := { name := "partsCuts", fn := fun _ => fun
  | [d1, d2, d3] => { results := [.lit (.bool false)], args := [d1, d2, d3] }
  | _ => none }
def PartsCutsWrongFalsely : Prop := partsCutsRow.holds Try.pinned (OpenSpec.ofChange partsCutsWrong)

/-- 'hatchwaylaw30.PartsPlays': WHATEVER THE INPUT: true; the input reads as it did. -/
def partsPlaysSpec : ChangeSpec := { name := "partsPlays", fn := fun _ => fun
  | [d1, d2, d3] => { results := [.lit (.bool true)], args := [d1, d2, d3] }
  | _ => none }
def partsPlaysRow : OpenClaim := { program := "ytoclbcpfiacoaaa", sum := "fb130f3754fc897f0aa4114ab26c70a816f29affd9e71b3126d2396923490f6d", func := "hatchway/hatchwaylaw30.PartsPlays", spec := "partsPlays", inPlace := ["internal/abi.NoEscape"], unfollowed := true, recurses := true, apart := false }
def PartsPlaysSaid : Prop := partsPlaysRow.holds Try.pinned (OpenSpec.ofChange partsPlaysSpec)

/-- ITS FALSE NEIGHBOUR: 'it returns false'. Refute it at one input. -/
def partsPlaysWrong : ChangeSpec := { name := "partsPlays", fn := fun _ => fun
  | [d1, d2, d3] => { results := [.lit (.bool false)], args := [d1, d2, d3] }
  | _ => none }
def PartsPlaysWrongFalsely : Prop := partsPlaysRow.holds Try.pinned (OpenSpec.ofChange partsPlaysWrong)

/-- 'hatchwaylaw15.PlainPuts': WHATEVER THE INPUT: true; the input reads as it did. -/
def plainPutsSpec : ChangeSpec := { name := "plainPuts", fn := fun _ => fun
  | [d1, d2, d3] => { results := [.lit (.bool true)], args := [d1, d2, d3] }
  | _ => none }
def plainPutsRow : OpenClaim := { program := "ytoclbcpfiacoaaa", sum := "fb130f3754fc897f0aa4114ab26c70a816f29affd9e71b3126d2396923490f6d", func := "hatchway/hatchwaylaw15.PlainPuts", spec := "plainPuts", unfollowed := true, recurses := true, apart := false }
def PlainPutsSaid : Prop := plainPutsRow.holds Try.pinned (OpenSpec.ofChange plainPutsSpec)

/-- ITS FALSE NEIGHBOUR: 'it returns false'. Refute it at one input. -/
def plainPutsWrong : ChangeSpec := { name := "plainPuts", fn := fun _ => fun
  | [d1, d2, d3] => { results := [.lit (.bool false)], args := [d1, d2, d3] }
  | _ => none }
def PlainPutsWrongFalsely : Prop := plainPutsRow.holds Try.pinned (OpenSpec.ofChange plainPutsWrong)

/-- 'hatchwaylaw30.PartsOrder': WHATEVER THE INPUT: true; the input reads as it did. -/
def partsOrderSpec : ChangeSpec := { name := "partsOrder", fn := fun _ => fun
  | [d1, d2, d3, d4] => { results := [.lit (.bool true)], args := [d1, d2, d3, d4] }
  | _ => none }
def partsOrderRow : OpenClaim := { program := "ytoclbcpfiacoaaa", sum := "fb130f3754fc897f0aa4114ab26c70a816f29affd9e71b3126d2396923490f6d", func := "hatchway/hatchwaylaw30.PartsOrder", spec := "partsOrder", inPlace := ["internal/abi.NoEscape"], unfollowed := true, recurses := true, apart := false }
def PartsOrderSaid : Prop := partsOrderRow.holds Try.pinned (OpenSpec.ofChange partsOrderSpec)

/-- ITS FALSE NEIGHBOUR: 'it returns false'. Refute it at one input. -/
def partsOrderWrong : ChangeSpec := { name := "partsOrder", fn := fun _ => fun
  | [d1, d2, d3, d4] => { results := [.lit (.bool false)], args := [d1, d2, d3, d4] }
  | _ => none }
def PartsOrderWrongFalsely : Prop := partsOrderRow.holds Try.pinned (OpenSpec.ofChange partsOrderWrong)

/-- 'hatchwaylaw15.PlainRow': WHATEVER THE INPUT: true; the input reads as it did. -/
def plainRowSpec : ChangeSpec := { name := "plainRow", fn := fun _ => fun
  | [d1, d2] => { results := [.lit (.bool true)], args := [d1, d2] }
  | _ => none }
def plainRowRow : OpenClaim := { program := "ytoclbcpfiacoaaa", sum := "fb130f3754fc897f0aa4114ab26c70a816f29affd9e71b3126d2396923490f6d", func := "hatchway/hatchwaylaw15.PlainRow", spec := "plainRow", unfollowed := true, recurses := true, apart := false }
def PlainRowSaid : Prop := plainRowRow.holds Try.pinned (OpenSpec.ofChange plainRowSpec)

/-- ITS FALSE NEIGHBOUR: 'it returns false'. Refute it at one input. -/
def plainRowWrong : ChangeSpec := { name := "plainRow", fn := fun _ => fun
  | [d1, d2] => { results := [.lit (.bool false)], args := [d1, d2] }
  | _ => none }
def PlainRowWrongFalsely : Prop := plainRowRow.holds Try.pinned (OpenSpec.ofChange plainRowWrong)

/-- 'hatchwaylaw30.PartsBytes': WHATEVER THE INPUT: true; the input reads as it did. -/
def partsBytesSpec : ChangeSpec := { name := "partsBytes", fn := fun _ => fun
  | [d1, d2] => { results := [.lit (.bool true)], args := [d1, d2] }
  | _ => none }
def partsBytesRow : OpenClaim := { program := "ytoclbcpfiacoaaa", sum := "fb130f3754fc897f0aa4114ab26c70a816f29affd9e71b3126d2396923490f6d", func := "hatchway/hatchwaylaw30.PartsBytes", spec := "partsBytes", inPlace := ["internal/abi.NoEscape"], unfollowed := true, recurses := true, apart := false }
def PartsBytesSaid : Prop := partsBytesRow.holds Try.pinned (OpenSpec.ofChange partsBytesSpec)

/-- ITS FALSE NEIGHBOUR: 'it returns false'. Refute it at one input. -/
def partsBytesWrong : ChangeSpec := { name := "partsBytes", fn := fun _ => fun
  | [d1, d2] => { results := [.lit (.bool false)], args := [d1, d2] }
  | _ => none }
def PartsBytesWrongFalsely : Prop := partsBytesRow.holds Try.pinned (OpenSpec.ofChange partsBytesWrong)

/- THE SECOND FORM. 'bulk': how many values and letters a reading holds, each counted each time it is reached (what is shared counts as often as it is met; a slice's spare places count too). A statement '..UptoSaid' is the law's where the arguments, and the package variables that the reading takes, are together of bulk at most 1048576: NARROWER than '..Said'. Prove '..Said' where nothing that the law and all that it calls make is longer than what came in: it says more and counts as full. Else prove '..UptoSaid'. A law counts once. -/
mutual
def uptoBulk {H : Type} : DataW H → Nat
  | .lit (.string bytes) => bytes.length + 1
  | .lit _ => 1
  | .nil => 1
  | .ptr d => uptoBulk d + 1
  | .slice elems spare => uptoBulkAll elems + uptoBulkAll spare + 1
  | .agg parts => uptoBulkAll parts + 1
  | .iface _ d => uptoBulk d + 1
  | .map entries => uptoBulkEntries entries + 1
  | .held _ => 1
def uptoBulkAll {H : Type} : List (DataW H) → Nat
  | [] => 0
  | d :: r => uptoBulk d + uptoBulkAll r
def uptoBulkEntries {H : Type} : List (Lit × DataW H) → Nat
  | [] => 0
  | x :: r => uptoBulkEntry x + uptoBulkEntries r
def uptoBulkEntry {H : Type} : Lit × DataW H → Nat
  | (.string bytes, d) => bytes.length + uptoBulk d + 1
  | (_, d) => uptoBulk d + 1
 end
def uptoSmall : (H : Type) → List (DataW H) → Bool := fun _ ds => decide (uptoBulkAll ds ≤ 1048576)
def OpenSpec.upto (s : _root_.Go.ChangeSpec) : _root_.Go.OpenSpec := { _root_.Go.OpenSpec.ofChange s with cond := some uptoSmall }

/-- 'hatchwaylaw30.PartsCuts', WHERE WHAT IT READS IS OF BULK AT MOST 1048576: true; the input reads as it did. -/
def partsCutsUptoRow : OpenClaim := { program := "ytoclbcpfiacoaaa", sum := "fb130f3754fc897f0aa4114ab26c70a816f29affd9e71b3126d2396923490f6d", func := "hatchway/hatchwaylaw30.PartsCuts", spec := "partsCuts", inPlace := ["internal/abi.NoEscape"], unfollowed := true, recurses := true, apart := false, narrowed := true }
def PartsCutsUptoSaid : Prop := partsCutsUptoRow.holds Try.pinned (OpenSpec.upto partsCutsSpec)

/-- 'hatchwaylaw30.PartsPlays', WHERE WHAT IT READS IS OF BULK AT MOST 1048576: true; the input reads as it did. -/
def partsPlaysUptoRow : OpenClaim := { program := "ytoclbcpfiacoaaa", sum := "fb130f3754fc897f0aa4114ab26c70a816f29affd9e71b3126d2396923490f6d", func := "hatchway/hatchwaylaw30.PartsPlays", spec := "partsPlays", inPlace := ["internal/abi.NoEscape"], unfollowed := true, recurses := true, apart := false, narrowed := true }
def PartsPlaysUptoSaid : Prop := partsPlaysUptoRow.holds Try.pinned (OpenSpec.upto partsPlaysSpec)

/-- 'hatchwaylaw15.PlainPuts', WHERE WHAT IT READS IS OF BULK AT MOST 1048576: true; the input reads as it did. -/
def plainPutsUptoRow : OpenClaim := { program := "ytoclbcpfiacoaaa", sum := "fb130f3754fc897f0aa4114ab26c70a816f29affd9e71b3126d2396923490f6d", func := "hatchway/hatchwaylaw15.PlainPuts", spec := "plainPuts", unfollowed := true, recurses := true, apart := false, narrowed := true }
def PlainPutsUptoSaid : Prop := plainPutsUptoRow.holds Try.pinned (OpenSpec.upto plainPutsSpec)

/-- 'hatchwaylaw30.PartsOrder', WHERE WHAT IT READS IS OF BULK AT MOST 1048576: true; the input reads as it did. -/
def partsOrderUptoRow : OpenClaim := { program := "ytoclbcpfiacoaaa", sum := "fb130f3754fc897f0aa4114ab26c70a816f29affd9e71b3126d2396923490f6d", func := "hatchway/hatchwaylaw30.PartsOrder", spec := "partsOrder", inPlace := ["internal/abi.NoEscape"], unfollowed := true, recurses := true, apart := false, narrowed := true }
def PartsOrderUptoSaid : Prop := partsOrderUptoRow.holds Try.pinned (OpenSpec.upto partsOrderSpec)

/-- 'hatchwaylaw15.PlainRow', WHERE WHAT IT READS IS OF BULK AT MOST 1048576: true; the input reads as it did. -/
def plainRowUptoRow : OpenClaim := { program := "ytoclbcpfiacoaaa", sum := "fb130f3754fc897f0aa4114ab26c70a816f29affd9e71b3126d2396923490f6d", func := "hatchway/hatchwaylaw15.PlainRow", spec := "plainRow", unfollowed := true, recurses := true, apart := false, narrowed := true }
def PlainRowUptoSaid : Prop := plainRowUptoRow.holds Try.pinned (OpenSpec.upto plainRowSpec)

/-- 'hatchwaylaw30.PartsBytes', WHERE WHAT IT READS IS OF BULK AT MOST 1048576: true; the input reads as it did. -/
def partsBytesUptoRow : OpenClaim := { program := "ytoclbcpfiacoaaa", sum := "fb130f3754fc897f0aa4114ab26c70a816f29affd9e71b3126d2396923490f6d", func := "hatchway/hatchwaylaw30.PartsBytes", spec := "partsBytes", inPlace := ["internal/abi.NoEscape"], unfollowed := true, recurses := true, apart := false, narrowed := true }
def PartsBytesUptoSaid : Prop := partsBytesUptoRow.holds Try.pinned (OpenSpec.upto partsBytesSpec)

end Rows
end Go.Proofs.Ytoclbcpfiacoaaa
