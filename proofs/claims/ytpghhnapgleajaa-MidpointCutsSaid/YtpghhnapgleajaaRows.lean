/-
  No cell of these rows narrows 'for every input' (looked for: loops, veiled, ifaces, maps, wideKeys, modest, calm, conditions, laid).
  DERIVED. THE GIVEN ROWS OF THIS SEAT. 6 by the template 'for every input the law returns true; each argument reads behind the call as it read before'; 0 by the template 'total and deterministic' (their statements: YtpghhnapgleajaaTotals.lean).
  GIVEN WITH THE SEED: the statements are not yours to turn. If you find one false, say at which input.
  Laid BY PROGRAM, IN A SANDBOX (cutbox-rows.mjs): the forced cells as the released guide's own fill.sh prints them over the translation 0f879939bace96df… (all of the seat's roots in one cut). By AI agents, Wed Nov 11 2026. No macro, syntax, notation, axiom, sorry.
-/
import Derived.Test.YtpghhnapgleajaaChecked
import GoSem.Claim
import GoSem.ClaimJoined
import GoSem.ClaimMapViews
import Derived.JoinedTies
import Derived.KernelRfl
namespace Go.Proofs.Ytpghhnapgleajaa
/- THE CELL 'sum', in the pinned program and in every row, IS THE sha256 OF THE DUMP (.gsa) THAT YtpghhnapgleajaaProg.lean LOADS. Nothing in Lean hashes anything: it is a label: what it is worth is what the hold of that sum in a sandbox is worth. -/
noncomputable def Try.pinned : Pinned := { name := "ytpghhnapgleajaa", sum := "0f879939bace96df246c3a9db21b6d5b399ba2e1ab71afab8e60ddcf9c43a585", checked := Try.checked }
namespace Rows
def none {H : Type} : Left H := { results := [], args := [] }

/-- 'escapementlaw10.MidpointCuts': WHATEVER THE INPUT: true; the input reads as it did. -/
def midpointCutsSpec : ChangeSpec := { name := "midpointCuts", fn := fun _ => fun
  | [d1, d2] => { results := [.lit (.bool true)], args := [d1, d2] }
  | _ => none }
def midpointCutsRow : OpenClaim := { program := "ytpghhnapgleajaa", sum := "0f879939bace96df246c3a9db21b6d5b399ba2e1ab71afab8e60ddcf9c43a585", func := "escapement/escapementlaw10.MidpointCuts", spec := "midpointCuts", unfollowed := true, recurses := true, apart := false }
def MidpointCutsSaid : Prop := midpointCutsRow.holds Try.pinned (OpenSpec.ofChange midpointCutsSpec)

/-- ITS FALSE NEIGHBOUR: 'it returns false'. Refute it at one input. -/
def midpointCutsWrong : ChangeSpec := { name := "midpointCuts", fn := fun _ => fun
  | [d1, d2] => { results := [.lit (.bool false)], args := [d1, d2] }
  | _ => none }
def MidpointCutsWrongFalsely : Prop := midpointCutsRow.holds Try.pinned (OpenSpec.ofChange midpointCutsWrong)

/-- 'escapementlaw10.MidpointHolds': WHATEVER THE INPUT: true; the input reads as it did. -/
def midpointHoldsSpec : ChangeSpec := { name := "midpointHolds", fn := fun _ => fun
  | [d1, d2, d3] => { results := [.lit (.bool true)], args := [d1, d2, d3] }
  | _ => none }
def midpointHoldsRow : OpenClaim := { program := "ytpghhnapgleajaa", sum := "0f879939bace96df246c3a9db21b6d5b399ba2e1ab71afab8e60ddcf9c43a585", func := "escapement/escapementlaw10.MidpointHolds", spec := "midpointHolds", unfollowed := true, recurses := true, apart := false }
def MidpointHoldsSaid : Prop := midpointHoldsRow.holds Try.pinned (OpenSpec.ofChange midpointHoldsSpec)

/-- ITS FALSE NEIGHBOUR: 'it returns false'. Refute it at one input. -/
def midpointHoldsWrong : ChangeSpec := { name := "midpointHolds", fn := fun _ => fun
  | [d1, d2, d3] => { results := [.lit (.bool false)], args := [d1, d2, d3] }
  | _ => none }
def MidpointHoldsWrongFalsely : Prop := midpointHoldsRow.holds Try.pinned (OpenSpec.ofChange midpointHoldsWrong)

/-- 'escapementlaw10.MidpointMeets': WHATEVER THE INPUT: true; the input reads as it did. -/
def midpointMeetsSpec : ChangeSpec := { name := "midpointMeets", fn := fun _ => fun
  | [d1, d2, d3, d4, d5, d6] => { results := [.lit (.bool true)], args := [d1, d2, d3, d4, d5, d6] }
  | _ => none }
def midpointMeetsRow : OpenClaim := { program := "ytpghhnapgleajaa", sum := "0f879939bace96df246c3a9db21b6d5b399ba2e1ab71afab8e60ddcf9c43a585", func := "escapement/escapementlaw10.MidpointMeets", spec := "midpointMeets", unfollowed := true, recurses := true, apart := false }
def MidpointMeetsSaid : Prop := midpointMeetsRow.holds Try.pinned (OpenSpec.ofChange midpointMeetsSpec)

/-- ITS FALSE NEIGHBOUR: 'it returns false'. Refute it at one input. -/
def midpointMeetsWrong : ChangeSpec := { name := "midpointMeets", fn := fun _ => fun
  | [d1, d2, d3, d4, d5, d6] => { results := [.lit (.bool false)], args := [d1, d2, d3, d4, d5, d6] }
  | _ => none }
def MidpointMeetsWrongFalsely : Prop := midpointMeetsRow.holds Try.pinned (OpenSpec.ofChange midpointMeetsWrong)

/-- 'escapementlaw10.MidpointMoves': WHATEVER THE INPUT: true; the input reads as it did. -/
def midpointMovesSpec : ChangeSpec := { name := "midpointMoves", fn := fun _ => fun
  | [d1, d2, d3] => { results := [.lit (.bool true)], args := [d1, d2, d3] }
  | _ => none }
def midpointMovesRow : OpenClaim := { program := "ytpghhnapgleajaa", sum := "0f879939bace96df246c3a9db21b6d5b399ba2e1ab71afab8e60ddcf9c43a585", func := "escapement/escapementlaw10.MidpointMoves", spec := "midpointMoves", unfollowed := true, recurses := true, apart := false }
def MidpointMovesSaid : Prop := midpointMovesRow.holds Try.pinned (OpenSpec.ofChange midpointMovesSpec)

/-- ITS FALSE NEIGHBOUR: 'it returns false'. Refute it at one input. -/
def midpointMovesWrong : ChangeSpec := { name := "midpointMoves", fn := fun _ => fun
  | [d1, d2, d3] => { results := [.lit (.bool false)], args := [d1, d2, d3] }
  | _ => none }
def MidpointMovesWrongFalsely : Prop := midpointMovesRow.holds Try.pinned (OpenSpec.ofChange midpointMovesWrong)

/-- 'escapementlaw10.MidpointMost': WHATEVER THE INPUT: true; the input reads as it did. -/
def midpointMostSpec : ChangeSpec := { name := "midpointMost", fn := fun _ => fun
  | [d1, d2, d3] => { results := [.lit (.bool true)], args := [d1, d2, d3] }
  | _ => none }
def midpointMostRow : OpenClaim := { program := "ytpghhnapgleajaa", sum := "0f879939bace96df246c3a9db21b6d5b399ba2e1ab71afab8e60ddcf9c43a585", func := "escapement/escapementlaw10.MidpointMost", spec := "midpointMost", unfollowed := true, recurses := true, apart := false }
def MidpointMostSaid : Prop := midpointMostRow.holds Try.pinned (OpenSpec.ofChange midpointMostSpec)

/-- ITS FALSE NEIGHBOUR: 'it returns false'. Refute it at one input. -/
def midpointMostWrong : ChangeSpec := { name := "midpointMost", fn := fun _ => fun
  | [d1, d2, d3] => { results := [.lit (.bool false)], args := [d1, d2, d3] }
  | _ => none }
def MidpointMostWrongFalsely : Prop := midpointMostRow.holds Try.pinned (OpenSpec.ofChange midpointMostWrong)

/-- 'escapementlaw10.MidpointParts': WHATEVER THE INPUT: true; the input reads as it did. -/
def midpointPartsSpec : ChangeSpec := { name := "midpointParts", fn := fun _ => fun
  | [d1, d2] => { results := [.lit (.bool true)], args := [d1, d2] }
  | _ => none }
def midpointPartsRow : OpenClaim := { program := "ytpghhnapgleajaa", sum := "0f879939bace96df246c3a9db21b6d5b399ba2e1ab71afab8e60ddcf9c43a585", func := "escapement/escapementlaw10.MidpointParts", spec := "midpointParts", unfollowed := true, recurses := true, apart := false }
def MidpointPartsSaid : Prop := midpointPartsRow.holds Try.pinned (OpenSpec.ofChange midpointPartsSpec)

/-- ITS FALSE NEIGHBOUR: 'it returns false'. Refute it at one input. -/
def midpointPartsWrong : ChangeSpec := { name := "midpointParts", fn := fun _ => fun
  | [d1, d2] => { results := [.lit (.bool false)], args := [d1, d2] }
  | _ => none }
def MidpointPartsWrongFalsely : Prop := midpointPartsRow.holds Try.pinned (OpenSpec.ofChange midpointPartsWrong)

/- THE SECOND FORM. 'bulk': how many values and letters a reading holds, each counted each time it is reached (what is shared counts as often as it is met; a slice's spare places count too). A statement '..UptoSaid' is the law's where the arguments, and the package variables that the reading takes, are together of bulk at most 1048576: NARROWER than '..Said'. Prove '..Said' where nothing that the law and all that it calls make is longer than what came in: it says more and counts as full. Else prove '..UptoSaid'. A law counts once. -/
mutual
def uptoBulk {H : Type} : DataW H → Nat
  | .lit (.string bytes) => bytes.length + 1
  | .lit _ => 1
  | .nil => 1
  | .ptr d => uptoBulk d + 1
  | .slice elems spare => uptoBulkAll elems + uptoBulkAll spare + 1
  | .agg parts => uptoBulkAll parts + 1
  | .iface _ d => uptoBulk d + 1
  | .map entries => uptoBulkEntries entries + 1
  | .held _ => 1
def uptoBulkAll {H : Type} : List (DataW H) → Nat
  | [] => 0
  | d :: r => uptoBulk d + uptoBulkAll r
def uptoBulkEntries {H : Type} : List (Lit × DataW H) → Nat
  | [] => 0
  | x :: r => uptoBulkEntry x + uptoBulkEntries r
def uptoBulkEntry {H : Type} : Lit × DataW H → Nat
  | (.string bytes, d) => bytes.length + uptoBulk d + 1
  | (_, d) => uptoBulk d + 1
 end
def uptoSmall : (H : Type) → List (DataW H) → Bool := fun _ ds => decide (uptoBulkAll ds ≤ 1048576)
def OpenSpec.upto (s : _root_.Go.ChangeSpec) : _root_.Go.OpenSpec := { _root_.Go.OpenSpec.ofChange s with cond := some uptoSmall }

/-- 'escapementlaw10.MidpointCuts', WHERE WHAT IT READS IS OF BULK AT MOST 1048576: true; the input reads as it did. -/
def midpointCutsUptoRow : OpenClaim := { program := "ytpghhnapgleajaa", sum := "0f879939bace96df246c3a9db21b6d5b399ba2e1ab71afab8e60ddcf9c43a585", func := "escapement/escapementlaw10.MidpointCuts", spec := "midpointCuts", unfollowed := true, recurses := true, apart := false, narrowed := true }
def MidpointCutsUptoSaid : Prop := midpointCutsUptoRow.holds Try.pinned (OpenSpec.upto midpointCutsSpec)

/-- 'escapementlaw10.MidpointHolds', WHERE WHAT IT READS IS OF BULK AT MOST 1048576: true; the input reads as it did. -/
def midpointHoldsUptoRow : OpenClaim := { program := "ytpghhnapgleajaa", sum := "0f879939bace96df246c3a9db21b6d5b399ba2e1ab71afab8e60ddcf9c43a585", func := "escapement/escapementlaw10.MidpointHolds", spec := "midpointHolds", unfollowed := true, recurses := true, apart := false, narrowed := true }
def MidpointHoldsUptoSaid : Prop := midpointHoldsUptoRow.holds Try.pinned (OpenSpec.upto midpointHoldsSpec)

/-- 'escapementlaw10.MidpointMeets', WHERE WHAT IT READS IS OF BULK AT MOST 1048576: true; the input reads as it did. -/
def midpointMeetsUptoRow : OpenClaim := { program := "ytpghhnapgleajaa", sum := "0f879939bace96df246c3a9db21b6d5b399ba2e1ab71afab8e60ddcf9c43a585", func := "escapement/escapementlaw10.MidpointMeets", spec := "midpointMeets", unfollowed := true, recurses := true, apart := false, narrowed := true }
def MidpointMeetsUptoSaid : Prop := midpointMeetsUptoRow.holds Try.pinned (OpenSpec.upto midpointMeetsSpec)

/-- 'escapementlaw10.MidpointMoves', WHERE WHAT IT READS IS OF BULK AT MOST 1048576: true; the input reads as it did. -/
def midpointMovesUptoRow : OpenClaim := { program := "ytpghhnapgleajaa", sum := "0f879939bace96df246c3a9db21b6d5b399ba2e1ab71afab8e60ddcf9c43a585", func := "escapement/escapementlaw10.MidpointMoves", spec := "midpointMoves", unfollowed := true, recurses := true, apart := false, narrowed := true }
def MidpointMovesUptoSaid : Prop := midpointMovesUptoRow.holds Try.pinned (OpenSpec.upto midpointMovesSpec)

/-- 'escapementlaw10.MidpointMost', WHERE WHAT IT READS IS OF BULK AT MOST 1048576: true; the input reads as it did. -/
def midpointMostUptoRow : OpenClaim := { program := "ytpghhnapgleajaa", sum := "0f879939bace96df246c3a9db21b6d5b399ba2e1ab71afab8e60ddcf9c43a585", func := "escapement/escapementlaw10.MidpointMost", spec := "midpointMost", unfollowed := true, recurses := true, apart := false, narrowed := true }
def MidpointMostUptoSaid : Prop := midpointMostUptoRow.holds Try.pinned (OpenSpec.upto midpointMostSpec)

/-- 'escapementlaw10.MidpointParts', WHERE WHAT IT READS IS OF BULK AT MOST 1048576: true; the input reads as it did. -/
def midpointPartsUptoRow : OpenClaim := { program := "ytpghhnapgleajaa", sum := "0f879939bace96df246c3a9db21b6d5b399ba2e1ab71afab8e60ddcf9c43a585", func := "escapement/escapementlaw10.MidpointParts", spec := "midpointParts", unfollowed := true, recurses := true, apart := false, narrowed := true }
def MidpointPartsUptoSaid : Prop := midpointPartsUptoRow.holds Try.pinned (OpenSpec.upto midpointPartsSpec)

end Rows
end Go.Proofs.Ytpghhnapgleajaa
