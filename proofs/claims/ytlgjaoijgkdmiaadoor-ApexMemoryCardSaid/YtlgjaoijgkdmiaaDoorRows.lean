/-
  NARROWER THAN 'FOR EVERY INPUT', by the rows' own cells (each row's printed sentence says how): ApexBudget: laid · ApexCommands: laid · ApexStops: laid · ApexMemory: laid · ApexNews: laid.
  DERIVED. THE GIVEN ROWS OF THIS SEAT. 5 by the template 'for every input the law returns true; each argument reads behind the call as it read before'; 0 by the template 'total and deterministic' (their statements: YtlgjaoijgkdmiaaDoorTotals.lean).
  GIVEN WITH THE SEED: the statements are not yours to turn. If you find one false, say at which input.
  Laid BY PROGRAM, IN A SANDBOX (cutbox-rows.mjs): the forced cells as the released guide's own fill.sh prints them over the translation a98a9df35bdc410d… (all of the seat's roots in one cut). By AI agents, Wed Nov 11 2026. No macro, syntax, notation, axiom, sorry.
-/
import Derived.Test.YtlgjaoijgkdmiaaDoorChecked
import GoSem.Claim
import GoSem.ClaimJoined
import GoSem.ClaimMapViews
import Derived.JoinedTies
import Derived.KernelRfl
namespace Go.Proofs.YtlgjaoijgkdmiaaDoor
/- THE CELL 'sum', in the pinned program and in every row, IS THE sha256 OF THE DUMP (.gsa) THAT YtlgjaoijgkdmiaaDoorProg.lean LOADS. Nothing in Lean hashes anything: it is a label: what it is worth is what the hold of that sum in a sandbox is worth. -/
noncomputable def Tryd.pinned : Pinned := { name := "ytlgjaoijgkdmiaadoor", sum := "a98a9df35bdc410d2ccdc1d7fd6e23558d0d4b90a35bd79e16b767b98c376901", checked := Tryd.checked }
namespace Rows
def none {H : Type} : Left H := { results := [], args := [] }

/- WHAT THE LISTED PACKAGE-LEVEL VARIABLES READ AS WHEN THE CALL BEGINS. Each datum BY PROGRAM (the guide's laid-datum.mjs) off the statement by which the dump's own 'gosem.cut.vars' lays the variable. In a bare row this is a premise. The card (YtlgjaoijgkdmiaaDoorCards.lean) ties it to the program's text. -/
def laid_errors_errorType {H : Type} : DataW H := .iface "internal/reflectlite.rtype" (.agg [.ptr (.lit (.string [101, 114, 114, 111, 114]))])

/-- 'escapementlaw16.ApexBudget': WHATEVER THE INPUT: true; the input reads as it did. -/
def apexBudgetSpec : ChangeSpec := { name := "apexBudget", fn := fun _ => fun
  | [d1, d2] => { results := [.lit (.bool true)], args := [d1, d2] }
  | _ => none }
def apexBudgetRow : OpenClaim := { program := "ytlgjaoijgkdmiaadoor", sum := "a98a9df35bdc410d2ccdc1d7fd6e23558d0d4b90a35bd79e16b767b98c376901", func := "escapement/escapementlaw16.ApexBudget", spec := "apexBudget", inPlace := ["internal/reflectlite.ValueOf", "(internal/reflectlite.Value).Type", "(internal/reflectlite.Value).IsNil", "internal/reflectlite.TypeOf", "(internal/reflectlite.Value).Elem", "(internal/reflectlite.Value).Set"], unfollowed := true, recurses := true, named := ["errors.errorType"], apart := false, laid := [("errors.errorType", laid_errors_errorType)] }
def ApexBudgetSaid : Prop := apexBudgetRow.holds Tryd.pinned (OpenSpec.ofChange apexBudgetSpec)

/-- ITS FALSE NEIGHBOUR: 'it returns false'. Refute it at one input. -/
def apexBudgetWrong : ChangeSpec := { name := "apexBudget", fn := fun _ => fun
  | [d1, d2] => { results := [.lit (.bool false)], args := [d1, d2] }
  | _ => none }
def ApexBudgetWrongFalsely : Prop := apexBudgetRow.holds Tryd.pinned (OpenSpec.ofChange apexBudgetWrong)

/-- 'escapementlaw16.ApexCommands': WHATEVER THE INPUT: true; the input reads as it did. -/
def apexCommandsSpec : ChangeSpec := { name := "apexCommands", fn := fun _ => fun
  | [d] => { results := [.lit (.bool true)], args := [d] }
  | _ => none }
def apexCommandsRow : OpenClaim := { program := "ytlgjaoijgkdmiaadoor", sum := "a98a9df35bdc410d2ccdc1d7fd6e23558d0d4b90a35bd79e16b767b98c376901", func := "escapement/escapementlaw16.ApexCommands", spec := "apexCommands", inPlace := ["internal/reflectlite.ValueOf", "(internal/reflectlite.Value).Type", "(internal/reflectlite.Value).IsNil", "internal/reflectlite.TypeOf", "(internal/reflectlite.Value).Elem", "(internal/reflectlite.Value).Set"], unfollowed := true, recurses := true, named := ["errors.errorType"], apart := false, laid := [("errors.errorType", laid_errors_errorType)] }
def ApexCommandsSaid : Prop := apexCommandsRow.holds Tryd.pinned (OpenSpec.ofChange apexCommandsSpec)

/-- ITS FALSE NEIGHBOUR: 'it returns false'. Refute it at one input. -/
def apexCommandsWrong : ChangeSpec := { name := "apexCommands", fn := fun _ => fun
  | [d] => { results := [.lit (.bool false)], args := [d] }
  | _ => none }
def ApexCommandsWrongFalsely : Prop := apexCommandsRow.holds Tryd.pinned (OpenSpec.ofChange apexCommandsWrong)

/-- 'escapementlaw16.ApexStops': WHATEVER THE INPUT: true; the input reads as it did. -/
def apexStopsSpec : ChangeSpec := { name := "apexStops", fn := fun _ => fun
  | [d1, d2, d3, d4] => { results := [.lit (.bool true)], args := [d1, d2, d3, d4] }
  | _ => none }
def apexStopsRow : OpenClaim := { program := "ytlgjaoijgkdmiaadoor", sum := "a98a9df35bdc410d2ccdc1d7fd6e23558d0d4b90a35bd79e16b767b98c376901", func := "escapement/escapementlaw16.ApexStops", spec := "apexStops", inPlace := ["internal/reflectlite.ValueOf", "(internal/reflectlite.Value).Type", "(internal/reflectlite.Value).IsNil", "internal/reflectlite.TypeOf", "(internal/reflectlite.Value).Elem", "(internal/reflectlite.Value).Set"], unfollowed := true, recurses := true, named := ["errors.errorType"], apart := false, laid := [("errors.errorType", laid_errors_errorType)] }
def ApexStopsSaid : Prop := apexStopsRow.holds Tryd.pinned (OpenSpec.ofChange apexStopsSpec)

/-- ITS FALSE NEIGHBOUR: 'it returns false'. Refute it at one input. -/
def apexStopsWrong : ChangeSpec := { name := "apexStops", fn := fun _ => fun
  | [d1, d2, d3, d4] => { results := [.lit (.bool false)], args := [d1, d2, d3, d4] }
  | _ => none }
def ApexStopsWrongFalsely : Prop := apexStopsRow.holds Tryd.pinned (OpenSpec.ofChange apexStopsWrong)

/-- 'escapementlaw16.ApexMemory': WHATEVER THE INPUT: true; the input reads as it did. -/
def apexMemorySpec : ChangeSpec := { name := "apexMemory", fn := fun _ => fun
  | [d] => { results := [.lit (.bool true)], args := [d] }
  | _ => none }
def apexMemoryRow : OpenClaim := { program := "ytlgjaoijgkdmiaadoor", sum := "a98a9df35bdc410d2ccdc1d7fd6e23558d0d4b90a35bd79e16b767b98c376901", func := "escapement/escapementlaw16.ApexMemory", spec := "apexMemory", inPlace := ["internal/reflectlite.ValueOf", "(internal/reflectlite.Value).Type", "(internal/reflectlite.Value).IsNil", "internal/reflectlite.TypeOf", "(internal/reflectlite.Value).Elem", "(internal/reflectlite.Value).Set"], unfollowed := true, recurses := true, named := ["errors.errorType"], apart := false, laid := [("errors.errorType", laid_errors_errorType)] }
def ApexMemorySaid : Prop := apexMemoryRow.holds Tryd.pinned (OpenSpec.ofChange apexMemorySpec)

/-- ITS FALSE NEIGHBOUR: 'it returns false'. Refute it at one input. -/
def apexMemoryWrong : ChangeSpec := { name := "apexMemory", fn := fun _ => fun
  | [d] => { results := [.lit (.bool false)], args := [d] }
  | _ => none }
def ApexMemoryWrongFalsely : Prop := apexMemoryRow.holds Tryd.pinned (OpenSpec.ofChange apexMemoryWrong)

/-- 'escapementlaw16.ApexNews': WHATEVER THE INPUT: true; the input reads as it did. -/
def apexNewsSpec : ChangeSpec := { name := "apexNews", fn := fun _ => fun
  | [d1, d2] => { results := [.lit (.bool true)], args := [d1, d2] }
  | _ => none }
def apexNewsRow : OpenClaim := { program := "ytlgjaoijgkdmiaadoor", sum := "a98a9df35bdc410d2ccdc1d7fd6e23558d0d4b90a35bd79e16b767b98c376901", func := "escapement/escapementlaw16.ApexNews", spec := "apexNews", inPlace := ["internal/reflectlite.ValueOf", "(internal/reflectlite.Value).Type", "(internal/reflectlite.Value).IsNil", "internal/reflectlite.TypeOf", "(internal/reflectlite.Value).Elem", "(internal/reflectlite.Value).Set"], unfollowed := true, recurses := true, named := ["errors.errorType"], apart := false, laid := [("errors.errorType", laid_errors_errorType)] }
def ApexNewsSaid : Prop := apexNewsRow.holds Tryd.pinned (OpenSpec.ofChange apexNewsSpec)

/-- ITS FALSE NEIGHBOUR: 'it returns false'. Refute it at one input. -/
def apexNewsWrong : ChangeSpec := { name := "apexNews", fn := fun _ => fun
  | [d1, d2] => { results := [.lit (.bool false)], args := [d1, d2] }
  | _ => none }
def ApexNewsWrongFalsely : Prop := apexNewsRow.holds Tryd.pinned (OpenSpec.ofChange apexNewsWrong)

/- THE SECOND FORM. 'bulk': how many values and letters a reading holds, each counted each time it is reached (what is shared counts as often as it is met; a slice's spare places count too). A statement '..UptoSaid' is the law's where the arguments, and the package variables that the reading takes, are together of bulk at most 1048576: NARROWER than '..Said'. Prove '..Said' where nothing that the law and all that it calls make is longer than what came in: it says more and counts as full. Else prove '..UptoSaid'. A law counts once. -/
mutual
def uptoBulk {H : Type} : DataW H → Nat
  | .lit (.string bytes) => bytes.length + 1
  | .lit _ => 1
  | .nil => 1
  | .ptr d => uptoBulk d + 1
  | .slice elems spare => uptoBulkAll elems + uptoBulkAll spare + 1
  | .agg parts => uptoBulkAll parts + 1
  | .iface _ d => uptoBulk d + 1
  | .map entries => uptoBulkEntries entries + 1
  | .held _ => 1
def uptoBulkAll {H : Type} : List (DataW H) → Nat
  | [] => 0
  | d :: r => uptoBulk d + uptoBulkAll r
def uptoBulkEntries {H : Type} : List (Lit × DataW H) → Nat
  | [] => 0
  | x :: r => uptoBulkEntry x + uptoBulkEntries r
def uptoBulkEntry {H : Type} : Lit × DataW H → Nat
  | (.string bytes, d) => bytes.length + uptoBulk d + 1
  | (_, d) => uptoBulk d + 1
 end
def uptoSmall : (H : Type) → List (DataW H) → Bool := fun _ ds => decide (uptoBulkAll ds ≤ 1048576)
def OpenSpec.upto (s : _root_.Go.ChangeSpec) : _root_.Go.OpenSpec := { _root_.Go.OpenSpec.ofChange s with cond := some uptoSmall }

/-- 'escapementlaw16.ApexBudget', WHERE WHAT IT READS IS OF BULK AT MOST 1048576: true; the input reads as it did. -/
def apexBudgetUptoRow : OpenClaim := { program := "ytlgjaoijgkdmiaadoor", sum := "a98a9df35bdc410d2ccdc1d7fd6e23558d0d4b90a35bd79e16b767b98c376901", func := "escapement/escapementlaw16.ApexBudget", spec := "apexBudget", inPlace := ["internal/reflectlite.ValueOf", "(internal/reflectlite.Value).Type", "(internal/reflectlite.Value).IsNil", "internal/reflectlite.TypeOf", "(internal/reflectlite.Value).Elem", "(internal/reflectlite.Value).Set"], unfollowed := true, recurses := true, named := ["errors.errorType"], apart := false, laid := [("errors.errorType", laid_errors_errorType)], narrowed := true }
def ApexBudgetUptoSaid : Prop := apexBudgetUptoRow.holds Tryd.pinned (OpenSpec.upto apexBudgetSpec)

/-- 'escapementlaw16.ApexCommands', WHERE WHAT IT READS IS OF BULK AT MOST 1048576: true; the input reads as it did. -/
def apexCommandsUptoRow : OpenClaim := { program := "ytlgjaoijgkdmiaadoor", sum := "a98a9df35bdc410d2ccdc1d7fd6e23558d0d4b90a35bd79e16b767b98c376901", func := "escapement/escapementlaw16.ApexCommands", spec := "apexCommands", inPlace := ["internal/reflectlite.ValueOf", "(internal/reflectlite.Value).Type", "(internal/reflectlite.Value).IsNil", "internal/reflectlite.TypeOf", "(internal/reflectlite.Value).Elem", "(internal/reflectlite.Value).Set"], unfollowed := true, recurses := true, named := ["errors.errorType"], apart := false, laid := [("errors.errorType", laid_errors_errorType)], narrowed := true }
def ApexCommandsUptoSaid : Prop := apexCommandsUptoRow.holds Tryd.pinned (OpenSpec.upto apexCommandsSpec)

/-- 'escapementlaw16.ApexStops', WHERE WHAT IT READS IS OF BULK AT MOST 1048576: true; the input reads as it did. -/
def apexStopsUptoRow : OpenClaim := { program := "ytlgjaoijgkdmiaadoor", sum := "a98a9df35bdc410d2ccdc1d7fd6e23558d0d4b90a35bd79e16b767b98c376901", func := "escapement/escapementlaw16.ApexStops", spec := "apexStops", inPlace := ["internal/reflectlite.ValueOf", "(internal/reflectlite.Value).Type", "(internal/reflectlite.Value).IsNil", "internal/reflectlite.TypeOf", "(internal/reflectlite.Value).Elem", "(internal/reflectlite.Value).Set"], unfollowed := true, recurses := true, named := ["errors.errorType"], apart := false, laid := [("errors.errorType", laid_errors_errorType)], narrowed := true }
def ApexStopsUptoSaid : Prop := apexStopsUptoRow.holds Tryd.pinned (OpenSpec.upto apexStopsSpec)

/-- 'escapementlaw16.ApexMemory', WHERE WHAT IT READS IS OF BULK AT MOST 1048576: true; the input reads as it did. -/
def apexMemoryUptoRow : OpenClaim := { program := "ytlgjaoijgkdmiaadoor", sum := "a98a9df35bdc410d2ccdc1d7fd6e23558d0d4b90a35bd79e16b767b98c376901", func := "escapement/escapementlaw16.ApexMemory", spec := "apexMemory", inPlace := ["internal/reflectlite.ValueOf", "(internal/reflectlite.Value).Type", "(internal/reflectlite.Value).IsNil", "internal/reflectlite.TypeOf", "(internal/reflectlite.Value).Elem", "(internal/reflectlite.Value).Set"], unfollowed := true, recurses := true, named := ["errors.errorType"], apart := false, laid := [("errors.errorType", laid_errors_errorType)], narrowed := true }
def ApexMemoryUptoSaid : Prop := apexMemoryUptoRow.holds Tryd.pinned (OpenSpec.upto apexMemorySpec)

/-- 'escapementlaw16.ApexNews', WHERE WHAT IT READS IS OF BULK AT MOST 1048576: true; the input reads as it did. -/
def apexNewsUptoRow : OpenClaim := { program := "ytlgjaoijgkdmiaadoor", sum := "a98a9df35bdc410d2ccdc1d7fd6e23558d0d4b90a35bd79e16b767b98c376901", func := "escapement/escapementlaw16.ApexNews", spec := "apexNews", inPlace := ["internal/reflectlite.ValueOf", "(internal/reflectlite.Value).Type", "(internal/reflectlite.Value).IsNil", "internal/reflectlite.TypeOf", "(internal/reflectlite.Value).Elem", "(internal/reflectlite.Value).Set"], unfollowed := true, recurses := true, named := ["errors.errorType"], apart := false, laid := [("errors.errorType", laid_errors_errorType)], narrowed := true }
def ApexNewsUptoSaid : Prop := apexNewsUptoRow.holds Tryd.pinned (OpenSpec.upto apexNewsSpec)

end Rows
end Go.Proofs.YtlgjaoijgkdmiaaDoor
