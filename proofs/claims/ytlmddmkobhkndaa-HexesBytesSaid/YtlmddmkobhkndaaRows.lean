/-
  NARROWER THAN 'FOR EVERY INPUT', by the rows' own cells (each row's printed sentence says how): HexesMessages: loops.
  DERIVED. THE GIVEN ROWS OF THIS SEAT. 2 by the template 'for every input the law returns true; each argument reads behind the call as it read before'; 0 by the template 'total and deterministic' (their statements: YtlmddmkobhkndaaTotals.lean).
  GIVEN WITH THE SEED: the statements are not yours to turn. If you find one false, say at which input.
  Laid BY PROGRAM, IN A SANDBOX (cutbox-rows.mjs): the forced cells as the released guide's own fill.sh prints them over the translation 5ffbf875470f202b… (all of the seat's roots in one cut). By AI agents, Wed Nov 11 2026. No macro, syntax, notation, axiom, sorry.
-/
import Derived.Test.YtlmddmkobhkndaaChecked
import GoSem.Claim
import GoSem.ClaimJoined
import GoSem.ClaimMapViews
import Derived.JoinedTies
import Derived.KernelRfl
namespace Go.Proofs.Ytlmddmkobhkndaa
/- THE CELL 'sum', in the pinned program and in every row, IS THE sha256 OF THE DUMP (.gsa) THAT YtlmddmkobhkndaaProg.lean LOADS. Nothing in Lean hashes anything: it is a label: what it is worth is what the hold of that sum in a sandbox is worth. -/
noncomputable def Try.pinned : Pinned := { name := "ytlmddmkobhkndaa", sum := "5ffbf875470f202b329c74d06e43b595cf30f432073ab6db1c6639afeeca45fd", checked := Try.checked }
namespace Rows
def none {H : Type} : Left H := { results := [], args := [] }

/-- 'hatchwaylaw27.HexesBytes': WHATEVER THE INPUT: true; the input reads as it did. -/
def hexesBytesSpec : ChangeSpec := { name := "hexesBytes", fn := fun _ => fun
  | [d1, d2] => { results := [.lit (.bool true)], args := [d1, d2] }
  | _ => none }
def hexesBytesRow : OpenClaim := { program := "ytlmddmkobhkndaa", sum := "5ffbf875470f202b329c74d06e43b595cf30f432073ab6db1c6639afeeca45fd", func := "hatchway/hatchwaylaw27.HexesBytes", spec := "hexesBytes", inPlace := ["internal/abi.NoEscape", "internal/bytealg.IndexByteString"], unfollowed := true, recurses := true, apart := false }
def HexesBytesSaid : Prop := hexesBytesRow.holds Try.pinned (OpenSpec.ofChange hexesBytesSpec)

/-- ITS FALSE NEIGHBOUR: 'it returns false'. Refute it at one input. -/
def hexesBytesWrong : ChangeSpec := { name := "hexesBytes", fn := fun _ => fun
  | [d1, d2] => { results := [.lit (.bool false)], args := [d1, d2] }
  | _ => none }
def HexesBytesWrongFalsely : Prop := hexesBytesRow.holds Try.pinned (OpenSpec.ofChange hexesBytesWrong)

/-- 'hatchwaylaw27.HexesMessages': WHATEVER THE INPUT: true; the input reads as it did. -/
def hexesMessagesSpec : ChangeSpec := { name := "hexesMessages", fn := fun _ => fun
  | [d1, d2] => { results := [.lit (.bool true)], args := [d1, d2] }
  | _ => none }
def hexesMessagesRow : OpenClaim := { program := "ytlmddmkobhkndaa", sum := "5ffbf875470f202b329c74d06e43b595cf30f432073ab6db1c6639afeeca45fd", func := "hatchway/hatchwaylaw27.HexesMessages", spec := "hexesMessages", inPlace := ["internal/abi.NoEscape", "internal/bytealg.IndexByteString", "internal/bytealg.IndexString"], unfollowed := true, recurses := true, named := ["internal/bytealg.MaxLen"], loops := true, apart := false }
def HexesMessagesSaid : Prop := hexesMessagesRow.holds Try.pinned (OpenSpec.ofChange hexesMessagesSpec)

/-- ITS FALSE NEIGHBOUR: 'it returns false'. Refute it at one input. -/
def hexesMessagesWrong : ChangeSpec := { name := "hexesMessages", fn := fun _ => fun
  | [d1, d2] => { results := [.lit (.bool false)], args := [d1, d2] }
  | _ => none }
def HexesMessagesWrongFalsely : Prop := hexesMessagesRow.holds Try.pinned (OpenSpec.ofChange hexesMessagesWrong)

/- THE SECOND FORM. 'bulk': how many values and letters a reading holds, each counted each time it is reached (what is shared counts as often as it is met; a slice's spare places count too). A statement '..UptoSaid' is the law's where the arguments, and the package variables that the reading takes, are together of bulk at most 1048576: NARROWER than '..Said'. Prove '..Said' where nothing that the law and all that it calls make is longer than what came in: it says more and counts as full. Else prove '..UptoSaid'. A law counts once. -/
mutual
def uptoBulk {H : Type} : DataW H → Nat
  | .lit (.string bytes) => bytes.length + 1
  | .lit _ => 1
  | .nil => 1
  | .ptr d => uptoBulk d + 1
  | .slice elems spare => uptoBulkAll elems + uptoBulkAll spare + 1
  | .agg parts => uptoBulkAll parts + 1
  | .iface _ d => uptoBulk d + 1
  | .map entries => uptoBulkEntries entries + 1
  | .held _ => 1
def uptoBulkAll {H : Type} : List (DataW H) → Nat
  | [] => 0
  | d :: r => uptoBulk d + uptoBulkAll r
def uptoBulkEntries {H : Type} : List (Lit × DataW H) → Nat
  | [] => 0
  | x :: r => uptoBulkEntry x + uptoBulkEntries r
def uptoBulkEntry {H : Type} : Lit × DataW H → Nat
  | (.string bytes, d) => bytes.length + uptoBulk d + 1
  | (_, d) => uptoBulk d + 1
 end
def uptoSmall : (H : Type) → List (DataW H) → Bool := fun _ ds => decide (uptoBulkAll ds ≤ 1048576)
def OpenSpec.upto (s : _root_.Go.ChangeSpec) : _root_.Go.OpenSpec := { _root_.Go.OpenSpec.ofChange s with cond := some uptoSmall }

/-- 'hatchwaylaw27.HexesBytes', WHERE WHAT IT READS IS OF BULK AT MOST 1048576: true; the input reads as it did. -/
def hexesBytesUptoRow : OpenClaim := { program := "ytlmddmkobhkndaa", sum := "5ffbf875470f202b329c74d06e43b595cf30f432073ab6db1c6639afeeca45fd", func := "hatchway/hatchwaylaw27.HexesBytes", spec := "hexesBytes", inPlace := ["internal/abi.NoEscape", "internal/bytealg.IndexByteString"], unfollowed := true, recurses := true, apart := false, narrowed := true }
def HexesBytesUptoSaid : Prop := hexesBytesUptoRow.holds Try.pinned (OpenSpec.upto hexesBytesSpec)

/-- 'hatchwaylaw27.HexesMessages', WHERE WHAT IT READS IS OF BULK AT MOST 1048576: true; the input reads as it did. -/
def hexesMessagesUptoRow : OpenClaim := { program := "ytlmddmkobhkndaa", sum := "5ffbf875470f202b329c74d06e43b595cf30f432073ab6db1c6639afeeca45fd", func := "hatchway/hatchwaylaw27.HexesMessages", spec := "hexesMessages", inPlace := ["internal/abi.NoEscape", "internal/bytealg.IndexByteString", "internal/bytealg.IndexString"], unfollowed := true, recurses := true, named := ["internal/bytealg.MaxLen"], loops := true, apart := false, narrowed := true }
def HexesMessagesUptoSaid : Prop := hexesMessagesUptoRow.holds Try.pinned (OpenSpec.upto hexesMessagesSpec)

end Rows
end Go.Proofs.Ytlmddmkobhkndaa
