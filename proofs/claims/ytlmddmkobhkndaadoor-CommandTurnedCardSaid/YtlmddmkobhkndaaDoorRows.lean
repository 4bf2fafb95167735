/-
  NARROWER THAN 'FOR EVERY INPUT', by the rows' own cells (each row's printed sentence says how): CommandPuts: laid · CommandGets: laid · CommandTurned: laid · HexesDumps: laid · HexesReads: laid.
  DERIVED. THE GIVEN ROWS OF THIS SEAT. 5 by the template 'for every input the law returns true; each argument reads behind the call as it read before'; 0 by the template 'total and deterministic' (their statements: YtlmddmkobhkndaaDoorTotals.lean).
  GIVEN WITH THE SEED: the statements are not yours to turn. If you find one false, say at which input.
  Laid BY PROGRAM, IN A SANDBOX (cutbox-rows.mjs): the forced cells as the released guide's own fill.sh prints them over the translation 32898f82beac38a9… (all of the seat's roots in one cut). By AI agents, Wed Nov 11 2026. No macro, syntax, notation, axiom, sorry.
-/
import Derived.Test.YtlmddmkobhkndaaDoorChecked
import GoSem.PinnedTables
import GoSem.Claim
import GoSem.ClaimJoined
import GoSem.ClaimMapViews
import Derived.JoinedTies
import Derived.KernelRfl
namespace Go.Proofs.YtlmddmkobhkndaaDoor
/- THE CELL 'sum', in the pinned program and in every row, IS THE sha256 OF THE DUMP (.gsa) THAT YtlmddmkobhkndaaDoorProg.lean LOADS. Nothing in Lean hashes anything: it is a label: what it is worth is what the hold of that sum in a sandbox is worth. -/
noncomputable def Tryd.pinned : Pinned := { name := "ytlmddmkobhkndaadoor", sum := "32898f82beac38a9d33d05a27e702d7c44d8744fdaf7d17e17e5c8da5ab323f6", checked := Tryd.checked }
namespace Rows
def none {H : Type} : Left H := { results := [], args := [] }

/- WHAT THE LISTED PACKAGE-LEVEL VARIABLES READ AS WHEN THE CALL BEGINS. Each datum BY PROGRAM (the guide's laid-datum.mjs) off the statement by which the dump's own 'gosem.cut.vars' lays the variable. In a bare row this is a premise. The card (YtlmddmkobhkndaaDoorCards.lean) ties it to the program's text. -/
def laid_unicode_utf8_acceptRanges {H : Type} : DataW H := .agg [.agg [.lit (.int .u8 128), .lit (.int .u8 191)], .agg [.lit (.int .u8 160), .lit (.int .u8 191)], .agg [.lit (.int .u8 128), .lit (.int .u8 159)], .agg [.lit (.int .u8 144), .lit (.int .u8 191)], .agg [.lit (.int .u8 128), .lit (.int .u8 143)], .agg [.lit (.int .u8 0), .lit (.int .u8 0)], .agg [.lit (.int .u8 0), .lit (.int .u8 0)], .agg [.lit (.int .u8 0), .lit (.int .u8 0)], .agg [.lit (.int .u8 0), .lit (.int .u8 0)], .agg [.lit (.int .u8 0), .lit (.int .u8 0)], .agg [.lit (.int .u8 0), .lit (.int .u8 0)], .agg [.lit (.int .u8 0), .lit (.int .u8 0)], .agg [.lit (.int .u8 0), .lit (.int .u8 0)], .agg [.lit (.int .u8 0), .lit (.int .u8 0)], .agg [.lit (.int .u8 0), .lit (.int .u8 0)], .agg [.lit (.int .u8 0), .lit (.int .u8 0)]]
/-- One of Go's own tables, pinned by name: the form's constant. -/
def laid_unicode_utf8_first : DataW Unit := Go.Pinned.utf8First

/-- 'hatchwaylaw13.CommandPuts': WHATEVER THE INPUT: true; the input reads as it did. -/
def commandPutsSpec : ChangeSpec := { name := "commandPuts", fn := fun _ => fun
  | [d] => { results := [.lit (.bool true)], args := [d] }
  | _ => none }
def commandPutsRow : OpenClaim := { program := "ytlmddmkobhkndaadoor", sum := "32898f82beac38a9d33d05a27e702d7c44d8744fdaf7d17e17e5c8da5ab323f6", func := "hatchway/hatchwaylaw13.CommandPuts", spec := "commandPuts", inPlace := ["internal/bytealg.IndexByteString", "internal/bytealg.IndexString"], unfollowed := true, recurses := true, named := ["unicode/utf8.first", "unicode/utf8.acceptRanges", "internal/bytealg.MaxLen"], apart := false, laid := [("unicode/utf8.acceptRanges", laid_unicode_utf8_acceptRanges), ("unicode/utf8.first", laid_unicode_utf8_first)] }
def CommandPutsSaid : Prop := commandPutsRow.holds Tryd.pinned (OpenSpec.ofChange commandPutsSpec)

/-- ITS FALSE NEIGHBOUR: 'it returns false'. Refute it at one input. -/
def commandPutsWrong : ChangeSpec := { name := "commandPuts", fn := fun _ => fun
  | [d] => { results := [.lit (.bool false)], args := [d] }
  | _ => none }
def CommandPutsWrongFalsely : Prop := commandPutsRow.holds Tryd.pinned (OpenSpec.ofChange commandPutsWrong)

/-- 'hatchwaylaw13.CommandGets': WHATEVER THE INPUT: true; the input reads as it did. -/
def commandGetsSpec : ChangeSpec := { name := "commandGets", fn := fun _ => fun
  | [d] => { results := [.lit (.bool true)], args := [d] }
  | _ => none }
def commandGetsRow : OpenClaim := { program := "ytlmddmkobhkndaadoor", sum := "32898f82beac38a9d33d05a27e702d7c44d8744fdaf7d17e17e5c8da5ab323f6", func := "hatchway/hatchwaylaw13.CommandGets", spec := "commandGets", inPlace := ["internal/bytealg.IndexByteString", "internal/bytealg.IndexString"], unfollowed := true, recurses := true, named := ["unicode/utf8.first", "unicode/utf8.acceptRanges", "internal/bytealg.MaxLen"], apart := false, laid := [("unicode/utf8.acceptRanges", laid_unicode_utf8_acceptRanges), ("unicode/utf8.first", laid_unicode_utf8_first)] }
def CommandGetsSaid : Prop := commandGetsRow.holds Tryd.pinned (OpenSpec.ofChange commandGetsSpec)

/-- ITS FALSE NEIGHBOUR: 'it returns false'. Refute it at one input. -/
def commandGetsWrong : ChangeSpec := { name := "commandGets", fn := fun _ => fun
  | [d] => { results := [.lit (.bool false)], args := [d] }
  | _ => none }
def CommandGetsWrongFalsely : Prop := commandGetsRow.holds Tryd.pinned (OpenSpec.ofChange commandGetsWrong)

/-- 'hatchwaylaw13.CommandTurned': WHATEVER THE INPUT: true; the input reads as it did. -/
def commandTurnedSpec : ChangeSpec := { name := "commandTurned", fn := fun _ => fun
  | [d1, d2, d3] => { results := [.lit (.bool true)], args := [d1, d2, d3] }
  | _ => none }
def commandTurnedRow : OpenClaim := { program := "ytlmddmkobhkndaadoor", sum := "32898f82beac38a9d33d05a27e702d7c44d8744fdaf7d17e17e5c8da5ab323f6", func := "hatchway/hatchwaylaw13.CommandTurned", spec := "commandTurned", inPlace := ["internal/bytealg.IndexByteString", "internal/bytealg.IndexString"], unfollowed := true, recurses := true, named := ["unicode/utf8.first", "unicode/utf8.acceptRanges", "internal/bytealg.MaxLen"], apart := false, laid := [("unicode/utf8.acceptRanges", laid_unicode_utf8_acceptRanges), ("unicode/utf8.first", laid_unicode_utf8_first)] }
def CommandTurnedSaid : Prop := commandTurnedRow.holds Tryd.pinned (OpenSpec.ofChange commandTurnedSpec)

/-- ITS FALSE NEIGHBOUR: 'it returns false'. Refute it at one input. -/
def commandTurnedWrong : ChangeSpec := { name := "commandTurned", fn := fun _ => fun
  | [d1, d2, d3] => { results := [.lit (.bool false)], args := [d1, d2, d3] }
  | _ => none }
def CommandTurnedWrongFalsely : Prop := commandTurnedRow.holds Tryd.pinned (OpenSpec.ofChange commandTurnedWrong)

/-- 'hatchwaylaw27.HexesDumps': WHATEVER THE INPUT: true; the input reads as it did. -/
def hexesDumpsSpec : ChangeSpec := { name := "hexesDumps", fn := fun _ => fun
  | [d] => { results := [.lit (.bool true)], args := [d] }
  | _ => none }
def hexesDumpsRow : OpenClaim := { program := "ytlmddmkobhkndaadoor", sum := "32898f82beac38a9d33d05a27e702d7c44d8744fdaf7d17e17e5c8da5ab323f6", func := "hatchway/hatchwaylaw27.HexesDumps", spec := "hexesDumps", inPlace := ["internal/abi.NoEscape", "internal/bytealg.IndexByteString", "internal/bytealg.IndexString", "internal/bytealg.CountString", "internal/bytealg.MakeNoZero"], unfollowed := true, recurses := true, named := ["internal/bytealg.MaxLen", "unicode/utf8.first", "unicode/utf8.acceptRanges"], apart := false, laid := [("unicode/utf8.acceptRanges", laid_unicode_utf8_acceptRanges), ("unicode/utf8.first", laid_unicode_utf8_first)] }
def HexesDumpsSaid : Prop := hexesDumpsRow.holds Tryd.pinned (OpenSpec.ofChange hexesDumpsSpec)

/-- ITS FALSE NEIGHBOUR: 'it returns false'. Refute it at one input. -/
def hexesDumpsWrong : ChangeSpec := { name := "hexesDumps", fn := fun _ => fun
  | [d] => { results := [.lit (.bool false)], args := [d] }
  | _ => none }
def HexesDumpsWrongFalsely : Prop := hexesDumpsRow.holds Tryd.pinned (OpenSpec.ofChange hexesDumpsWrong)

/-- 'hatchwaylaw27.HexesReads': WHATEVER THE INPUT: true; the input reads as it did. -/
def hexesReadsSpec : ChangeSpec := { name := "hexesReads", fn := fun _ => fun
  | [d] => { results := [.lit (.bool true)], args := [d] }
  | _ => none }
def hexesReadsRow : OpenClaim := { program := "ytlmddmkobhkndaadoor", sum := "32898f82beac38a9d33d05a27e702d7c44d8744fdaf7d17e17e5c8da5ab323f6", func := "hatchway/hatchwaylaw27.HexesReads", spec := "hexesReads", inPlace := ["internal/abi.NoEscape", "internal/bytealg.IndexByteString", "internal/bytealg.IndexString", "internal/bytealg.CountString", "internal/bytealg.MakeNoZero"], unfollowed := true, recurses := true, named := ["internal/bytealg.MaxLen", "unicode/utf8.first", "unicode/utf8.acceptRanges"], apart := false, laid := [("unicode/utf8.acceptRanges", laid_unicode_utf8_acceptRanges), ("unicode/utf8.first", laid_unicode_utf8_first)] }
def HexesReadsSaid : Prop := hexesReadsRow.holds Tryd.pinned (OpenSpec.ofChange hexesReadsSpec)

/-- ITS FALSE NEIGHBOUR: 'it returns false'. Refute it at one input. -/
def hexesReadsWrong : ChangeSpec := { name := "hexesReads", fn := fun _ => fun
  | [d] => { results := [.lit (.bool false)], args := [d] }
  | _ => none }
def HexesReadsWrongFalsely : Prop := hexesReadsRow.holds Tryd.pinned (OpenSpec.ofChange hexesReadsWrong)

/- THE SECOND FORM. 'bulk': how many values and letters a reading holds, each counted each time it is reached (what is shared counts as often as it is met; a slice's spare places count too). A statement '..UptoSaid' is the law's where the arguments, and the package variables that the reading takes, are together of bulk at most 1048576: NARROWER than '..Said'. Prove '..Said' where nothing that the law and all that it calls make is longer than what came in: it says more and counts as full. Else prove '..UptoSaid'. A law counts once. -/
mutual
def uptoBulk {H : Type} : DataW H → Nat
  | .lit (.string bytes) => bytes.length + 1
  | .lit _ => 1
  | .nil => 1
  | .ptr d => uptoBulk d + 1
  | .slice elems spare => uptoBulkAll elems + uptoBulkAll spare + 1
  | .agg parts => uptoBulkAll parts + 1
  | .iface _ d => uptoBulk d + 1
  | .map entries => uptoBulkEntries entries + 1
  | .held _ => 1
def uptoBulkAll {H : Type} : List (DataW H) → Nat
  | [] => 0
  | d :: r => uptoBulk d + uptoBulkAll r
def uptoBulkEntries {H : Type} : List (Lit × DataW H) → Nat
  | [] => 0
  | x :: r => uptoBulkEntry x + uptoBulkEntries r
def uptoBulkEntry {H : Type} : Lit × DataW H → Nat
  | (.string bytes, d) => bytes.length + uptoBulk d + 1
  | (_, d) => uptoBulk d + 1
 end
def uptoSmall : (H : Type) → List (DataW H) → Bool := fun _ ds => decide (uptoBulkAll ds ≤ 1048576)
def OpenSpec.upto (s : _root_.Go.ChangeSpec) : _root_.Go.OpenSpec := { _root_.Go.OpenSpec.ofChange s with cond := some uptoSmall }

/-- 'hatchwaylaw13.CommandPuts', WHERE WHAT IT READS IS OF BULK AT MOST 1048576: true; the input reads as it did. -/
def commandPutsUptoRow : OpenClaim := { program := "ytlmddmkobhkndaadoor", sum := "32898f82beac38a9d33d05a27e702d7c44d8744fdaf7d17e17e5c8da5ab323f6", func := "hatchway/hatchwaylaw13.CommandPuts", spec := "commandPuts", inPlace := ["internal/bytealg.IndexByteString", "internal/bytealg.IndexString"], unfollowed := true, recurses := true, named := ["unicode/utf8.first", "unicode/utf8.acceptRanges", "internal/bytealg.MaxLen"], apart := false, laid := [("unicode/utf8.acceptRanges", laid_unicode_utf8_acceptRanges), ("unicode/utf8.first", laid_unicode_utf8_first)], narrowed := true }
def CommandPutsUptoSaid : Prop := commandPutsUptoRow.holds Tryd.pinned (OpenSpec.upto commandPutsSpec)

/-- 'hatchwaylaw13.CommandGets', WHERE WHAT IT READS IS OF BULK AT MOST 1048576: true; the input reads as it did. -/
def commandGetsUptoRow : OpenClaim := { program := "ytlmddmkobhkndaadoor", sum := "32898f82beac38a9d33d05a27e702d7c44d8744fdaf7d17e17e5c8da5ab323f6", func := "hatchway/hatchwaylaw13.CommandGets", spec := "commandGets", inPlace := ["internal/bytealg.IndexByteString", "internal/bytealg.IndexString"], unfollowed := true, recurses := true, named := ["unicode/utf8.first", "unicode/utf8.acceptRanges", "internal/bytealg.MaxLen"], apart := false, laid := [("unicode/utf8.acceptRanges", laid_unicode_utf8_acceptRanges), ("unicode/utf8.first", laid_unicode_utf8_first)], narrowed := true }
def CommandGetsUptoSaid : Prop := commandGetsUptoRow.holds Tryd.pinned (OpenSpec.upto commandGetsSpec)

/-- 'hatchwaylaw13.CommandTurned', WHERE WHAT IT READS IS OF BULK AT MOST 1048576: true; the input reads as it did. -/
def commandTurnedUptoRow : OpenClaim := { program := "ytlmddmkobhkndaadoor", sum := "32898f82beac38a9d33d05a27e702d7c44d8744fdaf7d17e17e5c8da5ab323f6", func := "hatchway/hatchwaylaw13.CommandTurned", spec := "commandTurned", inPlace := ["internal/bytealg.IndexByteString", "internal/bytealg.IndexString"], unfollowed := true, recurses := true, named := ["unicode/utf8.first", "unicode/utf8.acceptRanges", "internal/bytealg.MaxLen"], apart := false, laid := [("unicode/utf8.acceptRanges", laid_unicode_utf8_acceptRanges), ("unicode/utf8.first", laid_unicode_utf8_first)], narrowed := true }
def CommandTurnedUptoSaid : Prop := commandTurnedUptoRow.holds Tryd.pinned (OpenSpec.upto commandTurnedSpec)

/-- 'hatchwaylaw27.HexesDumps', WHERE WHAT IT READS IS OF BULK AT MOST 1048576: true; the input reads as it did. -/
def hexesDumpsUptoRow : OpenClaim := { program := "ytlmddmkobhkndaadoor", sum := "32898f82beac38a9d33d05a27e702d7c44d8744fdaf7d17e17e5c8da5ab323f6", func := "hatchway/hatchwaylaw27.HexesDumps", spec := "hexesDumps", inPlace := ["internal/abi.NoEscape", "internal/bytealg.IndexByteString", "internal/bytealg.IndexString", "internal/bytealg.CountString", "internal/bytealg.MakeNoZero"], unfollowed := true, recurses := true, named := ["internal/bytealg.MaxLen", "unicode/utf8.first", "unicode/utf8.acceptRanges"], apart := false, laid := [("unicode/utf8.acceptRanges", laid_unicode_utf8_acceptRanges), ("unicode/utf8.first", laid_unicode_utf8_first)], narrowed := true }
def HexesDumpsUptoSaid : Prop := hexesDumpsUptoRow.holds Tryd.pinned (OpenSpec.upto hexesDumpsSpec)

/-- 'hatchwaylaw27.HexesReads', WHERE WHAT IT READS IS OF BULK AT MOST 1048576: true; the input reads as it did. -/
def hexesReadsUptoRow : OpenClaim := { program := "ytlmddmkobhkndaadoor", sum := "32898f82beac38a9d33d05a27e702d7c44d8744fdaf7d17e17e5c8da5ab323f6", func := "hatchway/hatchwaylaw27.HexesReads", spec := "hexesReads", inPlace := ["internal/abi.NoEscape", "internal/bytealg.IndexByteString", "internal/bytealg.IndexString", "internal/bytealg.CountString", "internal/bytealg.MakeNoZero"], unfollowed := true, recurses := true, named := ["internal/bytealg.MaxLen", "unicode/utf8.first", "unicode/utf8.acceptRanges"], apart := false, laid := [("unicode/utf8.acceptRanges", laid_unicode_utf8_acceptRanges), ("unicode/utf8.first", laid_unicode_utf8_first)], narrowed := true }
def HexesReadsUptoSaid : Prop := hexesReadsUptoRow.holds Tryd.pinned (OpenSpec.upto hexesReadsSpec)

end Rows
end Go.Proofs.YtlmddmkobhkndaaDoor
