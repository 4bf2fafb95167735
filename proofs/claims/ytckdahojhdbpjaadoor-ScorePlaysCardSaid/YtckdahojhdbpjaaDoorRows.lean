/-
  NARROWER THAN 'FOR EVERY INPUT', by the rows' own cells (each row's printed sentence says how): ScoreFades: laid · ScoreBans: laid · ScorePlays: laid.
  DERIVED. THE GIVEN ROWS OF THIS SEAT. 3 by the template 'for every input the law returns true; each argument reads behind the call as it read before'; 0 by the template 'total and deterministic' (their statements: YtckdahojhdbpjaaDoorTotals.lean).
  GIVEN WITH THE SEED: the statements are not yours to turn. If you find one false, say at which input.
  Laid BY PROGRAM, IN A SANDBOX (cutbox-rows.mjs): the forced cells as the released guide's own fill.sh prints them over the translation ca31579553e5317e… (all of the seat's roots in one cut). By AI agents, Wed Nov 11 2026. No macro, syntax, notation, axiom, sorry.
-/
import Derived.Test.YtckdahojhdbpjaaDoorChecked
import GoSem.Claim
import GoSem.ClaimJoined
import GoSem.ClaimMapViews
import Derived.JoinedTies
import Derived.KernelRfl
namespace Go.Proofs.YtckdahojhdbpjaaDoor
/- THE CELL 'sum', in the pinned program and in every row, IS THE sha256 OF THE DUMP (.gsa) THAT YtckdahojhdbpjaaDoorProg.lean LOADS. Nothing in Lean hashes anything: it is a label: what it is worth is what the hold of that sum in a sandbox is worth. -/
noncomputable def Tryd.pinned : Pinned := { name := "ytckdahojhdbpjaadoor", sum := "ca31579553e5317e6e43c5355ec9a8fe4a3f4495f2914d0d3f909597bce4235c", checked := Tryd.checked }
namespace Rows
def none {H : Type} : Left H := { results := [], args := [] }

/- WHAT THE LISTED PACKAGE-LEVEL VARIABLES READ AS WHEN THE CALL BEGINS. Each datum BY PROGRAM (the guide's laid-datum.mjs) off the statement by which the dump's own 'gosem.cut.vars' lays the variable. In a bare row this is a premise. The card (YtckdahojhdbpjaaDoorCards.lean) ties it to the program's text. -/
def laid_hatchway_score_points {H : Type} : DataW H := .agg [.lit (.int .i64 0), .lit (.int .i64 0), .lit (.int .i64 0), .lit (.int .i64 20), .lit (.int .i64 50), .lit (.int .i64 50), .lit (.int .i64 50), .lit (.int .i64 0), .lit (.int .i64 0), .lit (.int .i64 100), .lit (.int .i64 10), .lit (.int .i64 1), .lit (.int .i64 20)]

/-- 'hatchwaylaw29.ScoreFades': WHATEVER THE INPUT: true; the input reads as it did. -/
def scoreFadesSpec : ChangeSpec := { name := "scoreFades", fn := fun _ => fun
  | [d1, d2, d3, d4] => { results := [.lit (.bool true)], args := [d1, d2, d3, d4] }
  | _ => none }
def scoreFadesRow : OpenClaim := { program := "ytckdahojhdbpjaadoor", sum := "ca31579553e5317e6e43c5355ec9a8fe4a3f4495f2914d0d3f909597bce4235c", func := "hatchway/hatchwaylaw29.ScoreFades", spec := "scoreFades", unfollowed := true, recurses := true, named := ["hatchway/score.points"], apart := false, laid := [("hatchway/score.points", laid_hatchway_score_points)] }
def ScoreFadesSaid : Prop := scoreFadesRow.holds Tryd.pinned (OpenSpec.ofChange scoreFadesSpec)

/-- ITS FALSE NEIGHBOUR: 'it returns false'. Refute it at one input. -/
def scoreFadesWrong : ChangeSpec := { name := "scoreFades", fn := fun _ => fun
  | [d1, d2, d3, d4] => { results := [.lit (.bool false)], args := [d1, d2, d3, d4] }
  | _ => none }
def ScoreFadesWrongFalsely : Prop := scoreFadesRow.holds Tryd.pinned (OpenSpec.ofChange scoreFadesWrong)

/-- 'hatchwaylaw29.ScoreBans': WHATEVER THE INPUT: true; the input reads as it did. -/
def scoreBansSpec : ChangeSpec := { name := "scoreBans", fn := fun _ => fun
  | [d1, d2, d3, d4] => { results := [.lit (.bool true)], args := [d1, d2, d3, d4] }
  | _ => none }
def scoreBansRow : OpenClaim := { program := "ytckdahojhdbpjaadoor", sum := "ca31579553e5317e6e43c5355ec9a8fe4a3f4495f2914d0d3f909597bce4235c", func := "hatchway/hatchwaylaw29.ScoreBans", spec := "scoreBans", unfollowed := true, recurses := true, named := ["hatchway/score.points"], apart := false, laid := [("hatchway/score.points", laid_hatchway_score_points)] }
def ScoreBansSaid : Prop := scoreBansRow.holds Tryd.pinned (OpenSpec.ofChange scoreBansSpec)

/-- ITS FALSE NEIGHBOUR: 'it returns false'. Refute it at one input. -/
def scoreBansWrong : ChangeSpec := { name := "scoreBans", fn := fun _ => fun
  | [d1, d2, d3, d4] => { results := [.lit (.bool false)], args := [d1, d2, d3, d4] }
  | _ => none }
def ScoreBansWrongFalsely : Prop := scoreBansRow.holds Tryd.pinned (OpenSpec.ofChange scoreBansWrong)

/-- 'hatchwaylaw29.ScorePlays': WHATEVER THE INPUT: true; the input reads as it did. -/
def scorePlaysSpec : ChangeSpec := { name := "scorePlays", fn := fun _ => fun
  | [d1, d2, d3, d4] => { results := [.lit (.bool true)], args := [d1, d2, d3, d4] }
  | _ => none }
def scorePlaysRow : OpenClaim := { program := "ytckdahojhdbpjaadoor", sum := "ca31579553e5317e6e43c5355ec9a8fe4a3f4495f2914d0d3f909597bce4235c", func := "hatchway/hatchwaylaw29.ScorePlays", spec := "scorePlays", unfollowed := true, recurses := true, named := ["hatchway/score.points"], apart := false, laid := [("hatchway/score.points", laid_hatchway_score_points)] }
def ScorePlaysSaid : Prop := scorePlaysRow.holds Tryd.pinned (OpenSpec.ofChange scorePlaysSpec)

/-- ITS FALSE NEIGHBOUR: 'it returns false'. Refute it at one input. -/
def scorePlaysWrong : ChangeSpec := { name := "scorePlays", fn := fun _ => fun
  | [d1, d2, d3, d4] => { results := [.lit (.bool false)], args := [d1, d2, d3, d4] }
  | _ => none }
def ScorePlaysWrongFalsely : Prop := scorePlaysRow.holds Tryd.pinned (OpenSpec.ofChange scorePlaysWrong)

/- THE SECOND FORM. 'bulk': how many values and letters a reading holds, each counted each time it is reached (what is shared counts as often as it is met; a slice's spare places count too). A statement '..UptoSaid' is the law's where the arguments, and the package variables that the reading takes, are together of bulk at most 1048576: NARROWER than '..Said'. Prove '..Said' where nothing that the law and all that it calls make is longer than what came in: it says more and counts as full. Else prove '..UptoSaid'. A law counts once. -/
mutual
def uptoBulk {H : Type} : DataW H → Nat
  | .lit (.string bytes) => bytes.length + 1
  | .lit _ => 1
  | .nil => 1
  | .ptr d => uptoBulk d + 1
  | .slice elems spare => uptoBulkAll elems + uptoBulkAll spare + 1
  | .agg parts => uptoBulkAll parts + 1
  | .iface _ d => uptoBulk d + 1
  | .map entries => uptoBulkEntries entries + 1
  | .held _ => 1
def uptoBulkAll {H : Type} : List (DataW H) → Nat
  | [] => 0
  | d :: r => uptoBulk d + uptoBulkAll r
def uptoBulkEntries {H : Type} : List (Lit × DataW H) → Nat
  | [] => 0
  | x :: r => uptoBulkEntry x + uptoBulkEntries r
def uptoBulkEntry {H : Type} : Lit × DataW H → Nat
  | (.string bytes, d) => bytes.length + uptoBulk d + 1
  | (_, d) => uptoBulk d + 1
 end
def uptoSmall : (H : Type) → List (DataW H) → Bool := fun _ ds => decide (uptoBulkAll ds ≤ 1048576)
def OpenSpec.upto (s : _root_.Go.ChangeSpec) : _root_.Go.OpenSpec := { _root_.Go.OpenSpec.ofChange s with cond := some uptoSmall }

/-- 'hatchwaylaw29.ScoreFades', WHERE WHAT IT READS IS OF BULK AT MOST 1048576: true; the input reads as it did. -/
def scoreFadesUptoRow : OpenClaim := { program := "ytckdahojhdbpjaadoor", sum := "ca31579553e5317e6e43c5355ec9a8fe4a3f4495f2914d0d3f909597bce4235c", func := "hatchway/hatchwaylaw29.ScoreFades", spec := "scoreFades", unfollowed := true, recurses := true, named := ["hatchway/score.points"], apart := false, laid := [("hatchway/score.points", laid_hatchway_score_points)], narrowed := true }
def ScoreFadesUptoSaid : Prop := scoreFadesUptoRow.holds Tryd.pinned (OpenSpec.upto scoreFadesSpec)

/-- 'hatchwaylaw29.ScoreBans', WHERE WHAT IT READS IS OF BULK AT MOST 1048576: true; the input reads as it did. -/
def scoreBansUptoRow : OpenClaim := { program := "ytckdahojhdbpjaadoor", sum := "ca31579553e5317e6e43c5355ec9a8fe4a3f4495f2914d0d3f909597bce4235c", func := "hatchway/hatchwaylaw29.ScoreBans", spec := "scoreBans", unfollowed := true, recurses := true, named := ["hatchway/score.points"], apart := false, laid := [("hatchway/score.points", laid_hatchway_score_points)], narrowed := true }
def ScoreBansUptoSaid : Prop := scoreBansUptoRow.holds Tryd.pinned (OpenSpec.upto scoreBansSpec)

/-- 'hatchwaylaw29.ScorePlays', WHERE WHAT IT READS IS OF BULK AT MOST 1048576: true; the input reads as it did. -/
def scorePlaysUptoRow : OpenClaim := { program := "ytckdahojhdbpjaadoor", sum := "ca31579553e5317e6e43c5355ec9a8fe4a3f4495f2914d0d3f909597bce4235c", func := "hatchway/hatchwaylaw29.ScorePlays", spec := "scorePlays", unfollowed := true, recurses := true, named := ["hatchway/score.points"], apart := false, laid := [("hatchway/score.points", laid_hatchway_score_points)], narrowed := true }
def ScorePlaysUptoSaid : Prop := scorePlaysUptoRow.holds Tryd.pinned (OpenSpec.upto scorePlaysSpec)

end Rows
end Go.Proofs.YtckdahojhdbpjaaDoor
