/-
  NARROWER THAN 'FOR EVERY INPUT', by the rows' own cells (each row's printed sentence says how): LeafFolds: laid · LeafSearches: laid · LeafPuts: laid · PageSame: laid.
  DERIVED. THE GIVEN ROWS OF THIS SEAT. 4 by the template 'for every input the law returns true; each argument reads behind the call as it read before'; 0 by the template 'total and deterministic' (their statements: YtbeafnkcimfeeaaDoorTotals.lean).
  GIVEN WITH THE SEED: the statements are not yours to turn. If you find one false, say at which input.
  Laid BY PROGRAM, IN A SANDBOX (cutbox-rows.mjs): the forced cells as the released guide's own fill.sh prints them over the translation cba86cf1760757da… (all of the seat's roots in one cut). By AI agents, Wed Nov 11 2026. No macro, syntax, notation, axiom, sorry.
-/
import Derived.Test.YtbeafnkcimfeeaaDoorChecked
import GoSem.Claim
import GoSem.ClaimJoined
import GoSem.ClaimMapViews
import Derived.JoinedTies
import Derived.KernelRfl
namespace Go.Proofs.YtbeafnkcimfeeaaDoor
/- THE CELL 'sum', in the pinned program and in every row, IS THE sha256 OF THE DUMP (.gsa) THAT YtbeafnkcimfeeaaDoorProg.lean LOADS. Nothing in Lean hashes anything: it is a label: what it is worth is what the hold of that sum in a sandbox is worth. -/
noncomputable def Tryd.pinned : Pinned := { name := "ytbeafnkcimfeeaadoor", sum := "cba86cf1760757daa2ec7b5cce7474fe8383b193d2932ea19effa2080129a8eb", checked := Tryd.checked }
namespace Rows
def none {H : Type} : Left H := { results := [], args := [] }

/- WHAT THE LISTED PACKAGE-LEVEL VARIABLES READ AS WHEN THE CALL BEGINS. Each datum BY PROGRAM (the guide's laid-datum.mjs) off the statement by which the dump's own 'gosem.cut.vars' lays the variable. In a bare row this is a premise. The card (YtbeafnkcimfeeaaDoorCards.lean) ties it to the program's text. -/
def laid_errors_errorType {H : Type} : DataW H := .iface "internal/reflectlite.rtype" (.agg [.ptr (.lit (.string [101, 114, 114, 111, 114]))])

/-- 'rowlocklaw07.LeafFolds': WHATEVER THE INPUT: true; the input reads as it did. -/
def leafFoldsSpec : ChangeSpec := { name := "leafFolds", fn := fun _ => fun
  | [d] => { results := [.lit (.bool true)], args := [d] }
  | _ => none }
def leafFoldsRow : OpenClaim := { program := "ytbeafnkcimfeeaadoor", sum := "cba86cf1760757daa2ec7b5cce7474fe8383b193d2932ea19effa2080129a8eb", func := "rowlock/rowlocklaw07.LeafFolds", spec := "leafFolds", inPlace := ["internal/reflectlite.ValueOf", "(internal/reflectlite.Value).Type", "(internal/reflectlite.Value).IsNil", "internal/reflectlite.TypeOf", "(internal/reflectlite.Value).Elem", "(internal/reflectlite.Value).Set"], unfollowed := true, recurses := true, named := ["errors.errorType"], apart := false, laid := [("errors.errorType", laid_errors_errorType)] }
def LeafFoldsSaid : Prop := leafFoldsRow.holds Tryd.pinned (OpenSpec.ofChange leafFoldsSpec)

/-- ITS FALSE NEIGHBOUR: 'it returns false'. Refute it at one input. -/
def leafFoldsWrong : ChangeSpec := { name := "leafFolds", fn := fun _ => fun
  | [d] => { results := [.lit (.bool false)], args := [d] }
  | _ => none }
def LeafFoldsWrongFalsely : Prop := leafFoldsRow.holds Tryd.pinned (OpenSpec.ofChange leafFoldsWrong)

/-- 'rowlocklaw07.LeafSearches': WHATEVER THE INPUT: true; the input reads as it did. -/
def leafSearchesSpec : ChangeSpec := { name := "leafSearches", fn := fun _ => fun
  | [d1, d2] => { results := [.lit (.bool true)], args := [d1, d2] }
  | _ => none }
def leafSearchesRow : OpenClaim := { program := "ytbeafnkcimfeeaadoor", sum := "cba86cf1760757daa2ec7b5cce7474fe8383b193d2932ea19effa2080129a8eb", func := "rowlock/rowlocklaw07.LeafSearches", spec := "leafSearches", inPlace := ["internal/reflectlite.ValueOf", "(internal/reflectlite.Value).Type", "(internal/reflectlite.Value).IsNil", "internal/reflectlite.TypeOf", "(internal/reflectlite.Value).Elem", "(internal/reflectlite.Value).Set"], unfollowed := true, recurses := true, named := ["errors.errorType"], apart := false, laid := [("errors.errorType", laid_errors_errorType)] }
def LeafSearchesSaid : Prop := leafSearchesRow.holds Tryd.pinned (OpenSpec.ofChange leafSearchesSpec)

/-- ITS FALSE NEIGHBOUR: 'it returns false'. Refute it at one input. -/
def leafSearchesWrong : ChangeSpec := { name := "leafSearches", fn := fun _ => fun
  | [d1, d2] => { results := [.lit (.bool false)], args := [d1, d2] }
  | _ => none }
def LeafSearchesWrongFalsely : Prop := leafSearchesRow.holds Tryd.pinned (OpenSpec.ofChange leafSearchesWrong)

/-- 'rowlocklaw07.LeafPuts': WHATEVER THE INPUT: true; the input reads as it did. -/
def leafPutsSpec : ChangeSpec := { name := "leafPuts", fn := fun _ => fun
  | [d1, d2, d3] => { results := [.lit (.bool true)], args := [d1, d2, d3] }
  | _ => none }
def leafPutsRow : OpenClaim := { program := "ytbeafnkcimfeeaadoor", sum := "cba86cf1760757daa2ec7b5cce7474fe8383b193d2932ea19effa2080129a8eb", func := "rowlock/rowlocklaw07.LeafPuts", spec := "leafPuts", inPlace := ["internal/reflectlite.ValueOf", "(internal/reflectlite.Value).Type", "(internal/reflectlite.Value).IsNil", "internal/reflectlite.TypeOf", "(internal/reflectlite.Value).Elem", "(internal/reflectlite.Value).Set"], unfollowed := true, recurses := true, named := ["errors.errorType"], apart := false, laid := [("errors.errorType", laid_errors_errorType)] }
def LeafPutsSaid : Prop := leafPutsRow.holds Tryd.pinned (OpenSpec.ofChange leafPutsSpec)

/-- ITS FALSE NEIGHBOUR: 'it returns false'. Refute it at one input. -/
def leafPutsWrong : ChangeSpec := { name := "leafPuts", fn := fun _ => fun
  | [d1, d2, d3] => { results := [.lit (.bool false)], args := [d1, d2, d3] }
  | _ => none }
def LeafPutsWrongFalsely : Prop := leafPutsRow.holds Tryd.pinned (OpenSpec.ofChange leafPutsWrong)

/-- 'rowlocklaw10.PageSame': WHATEVER THE INPUT: true; the input reads as it did. -/
def pageSameSpec : ChangeSpec := { name := "pageSame", fn := fun _ => fun
  | [d1, d2] => { results := [.lit (.bool true)], args := [d1, d2] }
  | _ => none }
def pageSameRow : OpenClaim := { program := "ytbeafnkcimfeeaadoor", sum := "cba86cf1760757daa2ec7b5cce7474fe8383b193d2932ea19effa2080129a8eb", func := "rowlock/rowlocklaw10.PageSame", spec := "pageSame", inPlace := ["internal/reflectlite.ValueOf", "(internal/reflectlite.Value).Type", "(internal/reflectlite.Value).IsNil", "internal/reflectlite.TypeOf", "(internal/reflectlite.Value).Elem", "(internal/reflectlite.Value).Set"], unfollowed := true, recurses := true, named := ["errors.errorType"], apart := false, laid := [("errors.errorType", laid_errors_errorType)] }
def PageSameSaid : Prop := pageSameRow.holds Tryd.pinned (OpenSpec.ofChange pageSameSpec)

/-- ITS FALSE NEIGHBOUR: 'it returns false'. Refute it at one input. -/
def pageSameWrong : ChangeSpec := { name := "pageSame", fn := fun _ => fun
  | [d1, d2] => { results := [.lit (.bool false)], args := [d1, d2] }
  | _ => none }
def PageSameWrongFalsely : Prop := pageSameRow.holds Tryd.pinned (OpenSpec.ofChange pageSameWrong)

/- THE SECOND FORM. 'bulk': how many values and letters a reading holds, each counted each time it is reached (what is shared counts as often as it is met; a slice's spare places count too). A statement '..UptoSaid' is the law's where the arguments, and the package variables that the reading takes, are together of bulk at most 1048576: NARROWER than '..Said'. Prove '..Said' where nothing that the law and all that it calls make is longer than what came in: it says more and counts as full. Else prove '..UptoSaid'. A law counts once. -/
mutual
def uptoBulk {H : Type} : DataW H → Nat
  | .lit (.string bytes) => bytes.length + 1
  | .lit _ => 1
  | .nil => 1
  | .ptr d => uptoBulk d + 1
  | .slice elems spare => uptoBulkAll elems + uptoBulkAll spare + 1
  | .agg parts => uptoBulkAll parts + 1
  | .iface _ d => uptoBulk d + 1
  | .map entries => uptoBulkEntries entries + 1
  | .held _ => 1
def uptoBulkAll {H : Type} : List (DataW H) → Nat
  | [] => 0
  | d :: r => uptoBulk d + uptoBulkAll r
def uptoBulkEntries {H : Type} : List (Lit × DataW H) → Nat
  | [] => 0
  | x :: r => uptoBulkEntry x + uptoBulkEntries r
def uptoBulkEntry {H : Type} : Lit × DataW H → Nat
  | (.string bytes, d) => bytes.length + uptoBulk d + 1
  | (_, d) => uptoBulk d + 1
 end
def uptoSmall : (H : Type) → List (DataW H) → Bool := fun _ ds => decide (uptoBulkAll ds ≤ 1048576)
def OpenSpec.upto (s : _root_.Go.ChangeSpec) : _root_.Go.OpenSpec := { _root_.Go.OpenSpec.ofChange s with cond := some uptoSmall }

/-- 'rowlocklaw07.LeafFolds', WHERE WHAT IT READS IS OF BULK AT MOST 1048576: true; the input reads as it did. -/
def leafFoldsUptoRow : OpenClaim := { program := "ytbeafnkcimfeeaadoor", sum := "cba86cf1760757daa2ec7b5cce7474fe8383b193d2932ea19effa2080129a8eb", func := "rowlock/rowlocklaw07.LeafFolds", spec := "leafFolds", inPlace := ["internal/reflectlite.ValueOf", "(internal/reflectlite.Value).Type", "(internal/reflectlite.Value).IsNil", "internal/reflectlite.TypeOf", "(internal/reflectlite.Value).Elem", "(internal/reflectlite.Value).Set"], unfollowed := true, recurses := true, named := ["errors.errorType"], apart := false, laid := [("errors.errorType", laid_errors_errorType)], narrowed := true }
def LeafFoldsUptoSaid : Prop := leafFoldsUptoRow.holds Tryd.pinned (OpenSpec.upto leafFoldsSpec)

/-- 'rowlocklaw07.LeafSearches', WHERE WHAT IT READS IS OF BULK AT MOST 1048576: true; the input reads as it did. -/
def leafSearchesUptoRow : OpenClaim := { program := "ytbeafnkcimfeeaadoor", sum := "cba86cf1760757daa2ec7b5cce7474fe8383b193d2932ea19effa2080129a8eb", func := "rowlock/rowlocklaw07.LeafSearches", spec := "leafSearches", inPlace := ["internal/reflectlite.ValueOf", "(internal/reflectlite.Value).Type", "(internal/reflectlite.Value).IsNil", "internal/reflectlite.TypeOf", "(internal/reflectlite.Value).Elem", "(internal/reflectlite.Value).Set"], unfollowed := true, recurses := true, named := ["errors.errorType"], apart := false, laid := [("errors.errorType", laid_errors_errorType)], narrowed := true }
def LeafSearchesUptoSaid : Prop := leafSearchesUptoRow.holds Tryd.pinned (OpenSpec.upto leafSearchesSpec)

/-- 'rowlocklaw07.LeafPuts', WHERE WHAT IT READS IS OF BULK AT MOST 1048576: true; the input reads as it did. -/
def leafPutsUptoRow : OpenClaim := { program := "ytbeafnkcimfeeaadoor", sum := "cba86cf1760757daa2ec7b5cce7474fe8383b193d2932ea19effa2080129a8eb", func := "rowlock/rowlocklaw07.LeafPuts", spec := "leafPuts", inPlace := ["internal/reflectlite.ValueOf", "(internal/reflectlite.Value).Type", "(internal/reflectlite.Value).IsNil", "internal/reflectlite.TypeOf", "(internal/reflectlite.Value).Elem", "(internal/reflectlite.Value).Set"], unfollowed := true, recurses := true, named := ["errors.errorType"], apart := false, laid := [("errors.errorType", laid_errors_errorType)], narrowed := true }
def LeafPutsUptoSaid : Prop := leafPutsUptoRow.holds Tryd.pinned (OpenSpec.upto leafPutsSpec)

/-- 'rowlocklaw10.PageSame', WHERE WHAT IT READS IS OF BULK AT MOST 1048576: true; the input reads as it did. -/
def pageSameUptoRow : OpenClaim := { program := "ytbeafnkcimfeeaadoor", sum := "cba86cf1760757daa2ec7b5cce7474fe8383b193d2932ea19effa2080129a8eb", func := "rowlock/rowlocklaw10.PageSame", spec := "pageSame", inPlace := ["internal/reflectlite.ValueOf", "(internal/reflectlite.Value).Type", "(internal/reflectlite.Value).IsNil", "internal/reflectlite.TypeOf", "(internal/reflectlite.Value).Elem", "(internal/reflectlite.Value).Set"], unfollowed := true, recurses := true, named := ["errors.errorType"], apart := false, laid := [("errors.errorType", laid_errors_errorType)], narrowed := true }
def PageSameUptoSaid : Prop := pageSameUptoRow.holds Tryd.pinned (OpenSpec.upto pageSameSpec)

end Rows
end Go.Proofs.YtbeafnkcimfeeaaDoor
