/-
  NARROWER THAN 'FOR EVERY INPUT', by the rows' own cells (each row's printed sentence says how): TopEnds: laid · TopLinear: laid · PageMeans: laid · PageKeeps: laid · PageLoads: laid.
  DERIVED. THE GIVEN ROWS OF THIS SEAT. 5 by the template 'for every input the law returns true; each argument reads behind the call as it read before'; 0 by the template 'total and deterministic' (their statements: YtbeafnkcimfeeaaGreatDoorTotals.lean).
  GIVEN WITH THE SEED: the statements are not yours to turn. If you find one false, say at which input.
  Laid BY PROGRAM, IN A SANDBOX (cutbox-rows.mjs): the forced cells as the released guide's own fill.sh prints them over the translation bdeee605837751b3… (all of the seat's roots in one cut). By AI agents, Wed Nov 11 2026. No macro, syntax, notation, axiom, sorry.
-/
import Derived.Test.YtbeafnkcimfeeaaGreatDoorChecked
import GoSem.Claim
import GoSem.ClaimJoined
import GoSem.ClaimMapViews
import Derived.JoinedTies
import Derived.KernelRfl
namespace Go.Proofs.YtbeafnkcimfeeaaGreatDoor
/- THE CELL 'sum', in the pinned program and in every row, IS THE sha256 OF THE DUMP (.gsa) THAT YtbeafnkcimfeeaaGreatDoorProg.lean LOADS. Nothing in Lean hashes anything: it is a label: what it is worth is what the hold of that sum in a sandbox is worth. -/
noncomputable def Tryz.pinned : Pinned := { name := "ytbeafnkcimfeeaagreatdoor", sum := "bdeee605837751b321f576a543af71a29da847d9f6fa3efbf6eeaafd09f5a22f", checked := Tryz.checked }
namespace Rows
def none {H : Type} : Left H := { results := [], args := [] }

/- WHAT THE LISTED PACKAGE-LEVEL VARIABLES READ AS WHEN THE CALL BEGINS. Each datum BY PROGRAM (the guide's laid-datum.mjs) off the statement by which the dump's own 'gosem.cut.vars' lays the variable. In a bare row this is a premise. The card (YtbeafnkcimfeeaaGreatDoorCards.lean) ties it to the program's text. -/
def laid_errors_errorType {H : Type} : DataW H := .iface "internal/reflectlite.rtype" (.agg [.ptr (.lit (.string [101, 114, 114, 111, 114]))])

/-- 'rowlocktop.TopEnds': WHATEVER THE INPUT: true; the input reads as it did. -/
def topEndsSpec : ChangeSpec := { name := "topEnds", fn := fun _ => fun
  | [d1, d2] => { results := [.lit (.bool true)], args := [d1, d2] }
  | _ => none }
def topEndsRow : OpenClaim := { program := "ytbeafnkcimfeeaagreatdoor", sum := "bdeee605837751b321f576a543af71a29da847d9f6fa3efbf6eeaafd09f5a22f", func := "rowlock/rowlocktop.TopEnds", spec := "topEnds", inPlace := ["internal/reflectlite.ValueOf", "(internal/reflectlite.Value).Type", "(internal/reflectlite.Value).IsNil", "internal/reflectlite.TypeOf", "(internal/reflectlite.Value).Elem", "(internal/reflectlite.Value).Set"], unfollowed := true, recurses := true, named := ["errors.errorType"], apart := false, laid := [("errors.errorType", laid_errors_errorType)] }
def TopEndsSaid : Prop := topEndsRow.holds Tryz.pinned (OpenSpec.ofChange topEndsSpec)

/-- ITS FALSE NEIGHBOUR: 'it returns false'. Refute it at one input. -/
def topEndsWrong : ChangeSpec := { name := "topEnds", fn := fun _ => fun
  | [d1, d2] => { results := [.lit (.bool false)], args := [d1, d2] }
  | _ => none }
def TopEndsWrongFalsely : Prop := topEndsRow.holds Tryz.pinned (OpenSpec.ofChange topEndsWrong)

/-- 'rowlocktop.TopLinear': WHATEVER THE INPUT: true; the input reads as it did. -/
def topLinearSpec : ChangeSpec := { name := "topLinear", fn := fun _ => fun
  | [d] => { results := [.lit (.bool true)], args := [d] }
  | _ => none }
def topLinearRow : OpenClaim := { program := "ytbeafnkcimfeeaagreatdoor", sum := "bdeee605837751b321f576a543af71a29da847d9f6fa3efbf6eeaafd09f5a22f", func := "rowlock/rowlocktop.TopLinear", spec := "topLinear", inPlace := ["internal/reflectlite.ValueOf", "(internal/reflectlite.Value).Type", "(internal/reflectlite.Value).IsNil", "internal/reflectlite.TypeOf", "(internal/reflectlite.Value).Elem", "(internal/reflectlite.Value).Set"], unfollowed := true, recurses := true, named := ["errors.errorType"], apart := false, laid := [("errors.errorType", laid_errors_errorType)] }
def TopLinearSaid : Prop := topLinearRow.holds Tryz.pinned (OpenSpec.ofChange topLinearSpec)

/-- ITS FALSE NEIGHBOUR: 'it returns false'. Refute it at one input. -/
def topLinearWrong : ChangeSpec := { name := "topLinear", fn := fun _ => fun
  | [d] => { results := [.lit (.bool false)], args := [d] }
  | _ => none }
def TopLinearWrongFalsely : Prop := topLinearRow.holds Tryz.pinned (OpenSpec.ofChange topLinearWrong)

/-- 'rowlocklaw10.PageMeans': WHATEVER THE INPUT: true; the input reads as it did. -/
def pageMeansSpec : ChangeSpec := { name := "pageMeans", fn := fun _ => fun
  | [d1, d2, d3, d4] => { results := [.lit (.bool true)], args := [d1, d2, d3, d4] }
  | _ => none }
def pageMeansRow : OpenClaim := { program := "ytbeafnkcimfeeaagreatdoor", sum := "bdeee605837751b321f576a543af71a29da847d9f6fa3efbf6eeaafd09f5a22f", func := "rowlock/rowlocklaw10.PageMeans", spec := "pageMeans", inPlace := ["internal/reflectlite.ValueOf", "(internal/reflectlite.Value).Type", "(internal/reflectlite.Value).IsNil", "internal/reflectlite.TypeOf", "(internal/reflectlite.Value).Elem", "(internal/reflectlite.Value).Set"], unfollowed := true, recurses := true, named := ["errors.errorType"], apart := false, laid := [("errors.errorType", laid_errors_errorType)] }
def PageMeansSaid : Prop := pageMeansRow.holds Tryz.pinned (OpenSpec.ofChange pageMeansSpec)

/-- ITS FALSE NEIGHBOUR: 'it returns false'. Refute it at one input. -/
def pageMeansWrong : ChangeSpec := { name := "pageMeans", fn := fun _ => fun
  | [d1, d2, d3, d4] => { results := [.lit (.bool false)], args := [d1, d2, d3, d4] }
  | _ => none }
def PageMeansWrongFalsely : Prop := pageMeansRow.holds Tryz.pinned (OpenSpec.ofChange pageMeansWrong)

/-- 'rowlocklaw10.PageKeeps': WHATEVER THE INPUT: true; the input reads as it did. -/
def pageKeepsSpec : ChangeSpec := { name := "pageKeeps", fn := fun _ => fun
  | [d1, d2, d3] => { results := [.lit (.bool true)], args := [d1, d2, d3] }
  | _ => none }
def pageKeepsRow : OpenClaim := { program := "ytbeafnkcimfeeaagreatdoor", sum := "bdeee605837751b321f576a543af71a29da847d9f6fa3efbf6eeaafd09f5a22f", func := "rowlock/rowlocklaw10.PageKeeps", spec := "pageKeeps", inPlace := ["internal/reflectlite.ValueOf", "(internal/reflectlite.Value).Type", "(internal/reflectlite.Value).IsNil", "internal/reflectlite.TypeOf", "(internal/reflectlite.Value).Elem", "(internal/reflectlite.Value).Set"], unfollowed := true, recurses := true, named := ["errors.errorType"], apart := false, laid := [("errors.errorType", laid_errors_errorType)] }
def PageKeepsSaid : Prop := pageKeepsRow.holds Tryz.pinned (OpenSpec.ofChange pageKeepsSpec)

/-- ITS FALSE NEIGHBOUR: 'it returns false'. Refute it at one input. -/
def pageKeepsWrong : ChangeSpec := { name := "pageKeeps", fn := fun _ => fun
  | [d1, d2, d3] => { results := [.lit (.bool false)], args := [d1, d2, d3] }
  | _ => none }
def PageKeepsWrongFalsely : Prop := pageKeepsRow.holds Tryz.pinned (OpenSpec.ofChange pageKeepsWrong)

/-- 'rowlocklaw10.PageLoads': WHATEVER THE INPUT: true; the input reads as it did. -/
def pageLoadsSpec : ChangeSpec := { name := "pageLoads", fn := fun _ => fun
  | [d1, d2] => { results := [.lit (.bool true)], args := [d1, d2] }
  | _ => none }
def pageLoadsRow : OpenClaim := { program := "ytbeafnkcimfeeaagreatdoor", sum := "bdeee605837751b321f576a543af71a29da847d9f6fa3efbf6eeaafd09f5a22f", func := "rowlock/rowlocklaw10.PageLoads", spec := "pageLoads", inPlace := ["internal/reflectlite.TypeOf", "internal/reflectlite.ValueOf", "(internal/reflectlite.Value).Type", "(internal/reflectlite.Value).IsNil", "(internal/reflectlite.Value).Elem", "(internal/reflectlite.Value).Set"], unfollowed := true, recurses := true, named := ["errors.errorType"], apart := false, laid := [("errors.errorType", laid_errors_errorType)] }
def PageLoadsSaid : Prop := pageLoadsRow.holds Tryz.pinned (OpenSpec.ofChange pageLoadsSpec)

/-- ITS FALSE NEIGHBOUR: 'it returns false'. Refute it at one input. -/
def pageLoadsWrong : ChangeSpec := { name := "pageLoads", fn := fun _ => fun
  | [d1, d2] => { results := [.lit (.bool false)], args := [d1, d2] }
  | _ => none }
def PageLoadsWrongFalsely : Prop := pageLoadsRow.holds Tryz.pinned (OpenSpec.ofChange pageLoadsWrong)

/- THE SECOND FORM. 'bulk': how many values and letters a reading holds, each counted each time it is reached (what is shared counts as often as it is met; a slice's spare places count too). A statement '..UptoSaid' is the law's where the arguments, and the package variables that the reading takes, are together of bulk at most 1048576: NARROWER than '..Said'. Prove '..Said' where nothing that the law and all that it calls make is longer than what came in: it says more and counts as full. Else prove '..UptoSaid'. A law counts once. -/
mutual
def uptoBulk {H : Type} : DataW H → Nat
  | .lit (.string bytes) => bytes.length + 1
  | .lit _ => 1
  | .nil => 1
  | .ptr d => uptoBulk d + 1
  | .slice elems spare => uptoBulkAll elems + uptoBulkAll spare + 1
  | .agg parts => uptoBulkAll parts + 1
  | .iface _ d => uptoBulk d + 1
  | .map entries => uptoBulkEntries entries + 1
  | .held _ => 1
def uptoBulkAll {H : Type} : List (DataW H) → Nat
  | [] => 0
  | d :: r => uptoBulk d + uptoBulkAll r
def uptoBulkEntries {H : Type} : List (Lit × DataW H) → Nat
  | [] => 0
  | x :: r => uptoBulkEntry x + uptoBulkEntries r
def uptoBulkEntry {H : Type} : Lit × DataW H → Nat
  | (.string bytes, d) => bytes.length + uptoBulk d + 1
  | (_, d) => uptoBulk d + 1
 end
def uptoSmall : (H : Type) → List (DataW H) → Bool := fun _ ds => decide (uptoBulkAll ds ≤ 1048576)
def OpenSpec.upto (s : _root_.Go.ChangeSpec) : _root_.Go.OpenSpec := { _root_.Go.OpenSpec.ofChange s with cond := some uptoSmall }

/-- 'rowlocktop.TopEnds', WHERE WHAT IT READS IS OF BULK AT MOST 1048576: true; the input reads as it did. -/
def topEndsUptoRow : OpenClaim := { program := "ytbeafnkcimfeeaagreatdoor", sum := "bdeee605837751b321f576a543af71a29da847d9f6fa3efbf6eeaafd09f5a22f", func := "rowlock/rowlocktop.TopEnds", spec := "topEnds", inPlace := ["internal/reflectlite.ValueOf", "(internal/reflectlite.Value).Type", "(internal/reflectlite.Value).IsNil", "internal/reflectlite.TypeOf", "(internal/reflectlite.Value).Elem", "(internal/reflectlite.Value).Set"], unfollowed := true, recurses := true, named := ["errors.errorType"], apart := false, laid := [("errors.errorType", laid_errors_errorType)], narrowed := true }
def TopEndsUptoSaid : Prop := topEndsUptoRow.holds Tryz.pinned (OpenSpec.upto topEndsSpec)

/-- 'rowlocktop.TopLinear', WHERE WHAT IT READS IS OF BULK AT MOST 1048576: true; the input reads as it did. -/
def topLinearUptoRow : OpenClaim := { program := "ytbeafnkcimfeeaagreatdoor", sum := "bdeee605837751b321f576a543af71a29da847d9f6fa3efbf6eeaafd09f5a22f", func := "rowlock/rowlocktop.TopLinear", spec := "topLinear", inPlace := ["internal/reflectlite.ValueOf", "(internal/reflectlite.Value).Type", "(internal/reflectlite.Value).IsNil", "internal/reflectlite.TypeOf", "(internal/reflectlite.Value).Elem", "(internal/reflectlite.Value).Set"], unfollowed := true, recurses := true, named := ["errors.errorType"], apart := false, laid := [("errors.errorType", laid_errors_errorType)], narrowed := true }
def TopLinearUptoSaid : Prop := topLinearUptoRow.holds Tryz.pinned (OpenSpec.upto topLinearSpec)

/-- 'rowlocklaw10.PageMeans', WHERE WHAT IT READS IS OF BULK AT MOST 1048576: true; the input reads as it did. -/
def pageMeansUptoRow : OpenClaim := { program := "ytbeafnkcimfeeaagreatdoor", sum := "bdeee605837751b321f576a543af71a29da847d9f6fa3efbf6eeaafd09f5a22f", func := "rowlock/rowlocklaw10.PageMeans", spec := "pageMeans", inPlace := ["internal/reflectlite.ValueOf", "(internal/reflectlite.Value).Type", "(internal/reflectlite.Value).IsNil", "internal/reflectlite.TypeOf", "(internal/reflectlite.Value).Elem", "(internal/reflectlite.Value).Set"], unfollowed := true, recurses := true, named := ["errors.errorType"], apart := false, laid := [("errors.errorType", laid_errors_errorType)], narrowed := true }
def PageMeansUptoSaid : Prop := pageMeansUptoRow.holds Tryz.pinned (OpenSpec.upto pageMeansSpec)

/-- 'rowlocklaw10.PageKeeps', WHERE WHAT IT READS IS OF BULK AT MOST 1048576: true; the input reads as it did. -/
def pageKeepsUptoRow : OpenClaim := { program := "ytbeafnkcimfeeaagreatdoor", sum := "bdeee605837751b321f576a543af71a29da847d9f6fa3efbf6eeaafd09f5a22f", func := "rowlock/rowlocklaw10.PageKeeps", spec := "pageKeeps", inPlace := ["internal/reflectlite.ValueOf", "(internal/reflectlite.Value).Type", "(internal/reflectlite.Value).IsNil", "internal/reflectlite.TypeOf", "(internal/reflectlite.Value).Elem", "(internal/reflectlite.Value).Set"], unfollowed := true, recurses := true, named := ["errors.errorType"], apart := false, laid := [("errors.errorType", laid_errors_errorType)], narrowed := true }
def PageKeepsUptoSaid : Prop := pageKeepsUptoRow.holds Tryz.pinned (OpenSpec.upto pageKeepsSpec)

/-- 'rowlocklaw10.PageLoads', WHERE WHAT IT READS IS OF BULK AT MOST 1048576: true; the input reads as it did. -/
def pageLoadsUptoRow : OpenClaim := { program := "ytbeafnkcimfeeaagreatdoor", sum := "bdeee605837751b321f576a543af71a29da847d9f6fa3efbf6eeaafd09f5a22f", func := "rowlock/rowlocklaw10.PageLoads", spec := "pageLoads", inPlace := ["internal/reflectlite.TypeOf", "internal/reflectlite.ValueOf", "(internal/reflectlite.Value).Type", "(internal/reflectlite.Value).IsNil", "(internal/reflectlite.Value).Elem", "(internal/reflectlite.Value).Set"], unfollowed := true, recurses := true, named := ["errors.errorType"], apart := false, laid := [("errors.errorType", laid_errors_errorType)], narrowed := true }
def PageLoadsUptoSaid : Prop := pageLoadsUptoRow.holds Tryz.pinned (OpenSpec.upto pageLoadsSpec)

end Rows
end Go.Proofs.YtbeafnkcimfeeaaGreatDoor
