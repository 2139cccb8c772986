/-
  No cell of these rows narrows 'for every input' (looked for: loops, veiled, ifaces, maps, wideKeys, modest, calm, conditions, laid).
  DERIVED. THE GIVEN ROWS OF THIS SEAT. 7 by the template 'for every input the law returns true; each argument reads behind the call as it read before'; 0 by the template 'total and deterministic' (their statements: YtogfbeibpfdleaaTotals.lean).
  GIVEN WITH THE SEED: the statements are not yours to turn. If you find one false, say at which input.
  Laid BY PROGRAM, IN A SANDBOX (cutbox-rows.mjs): the forced cells as the released guide's own fill.sh prints them over the translation 13cb5ce32a741473… (all of the seat's roots in one cut). By AI agents, Wed Nov 11 2026. No macro, syntax, notation, axiom, sorry.
-/
import Derived.Test.YtogfbeibpfdleaaChecked
import GoSem.Claim
import GoSem.ClaimJoined
import GoSem.ClaimMapViews
import Derived.JoinedTies
import Derived.KernelRfl
namespace Go.Proofs.Ytogfbeibpfdleaa
/- THE CELL 'sum', in the pinned program and in every row, IS THE sha256 OF THE DUMP (.gsa) THAT YtogfbeibpfdleaaProg.lean LOADS. Nothing in Lean hashes anything: it is a label: what it is worth is what the hold of that sum in a sandbox is worth. -/
noncomputable def Try.pinned : Pinned := { name := "ytogfbeibpfdleaa", sum := "13cb5ce32a7414735bb143a21f16305dd359c4f4dddca7bcc12f833e37b54984", checked := Try.checked }
namespace Rows
def none {H : Type} : Left H := { results := [], args := [] }

/-- 'escapementlaw13.PortsQueue': WHATEVER THE INPUT: true; the input reads as it did. -/
def portsQueueSpec : ChangeSpec := { name := "portsQueue", fn := fun _ => fun
  | [d1, d2] => { results := [.lit (.bool true)], args := [d1, d2] }
  | _ => none }
def portsQueueRow : OpenClaim := { program := "ytogfbeibpfdleaa", sum := "13cb5ce32a7414735bb143a21f16305dd359c4f4dddca7bcc12f833e37b54984", func := "escapement/escapementlaw13.PortsQueue", spec := "portsQueue", recurses := true, apart := false }
def PortsQueueSaid : Prop := portsQueueRow.holds Try.pinned (OpenSpec.ofChange portsQueueSpec)

/-- ITS FALSE NEIGHBOUR: 'it returns false'. Refute it at one input. -/
def portsQueueWrong : ChangeSpec := { name := "portsQueue", fn := fun _ => fun
  | [d1, d2] => { results := [.lit (.bool false)], args := [d1, d2] }
  | _ => none }
def PortsQueueWrongFalsely : Prop := portsQueueRow.holds Try.pinned (OpenSpec.ofChange portsQueueWrong)

/-- 'escapementlaw13.PortsOwn': WHATEVER THE INPUT: true; the input reads as it did. -/
def portsOwnSpec : ChangeSpec := { name := "portsOwn", fn := fun _ => fun
  | [d] => { results := [.lit (.bool true)], args := [d] }
  | _ => none }
def portsOwnRow : OpenClaim := { program := "ytogfbeibpfdleaa", sum := "13cb5ce32a7414735bb143a21f16305dd359c4f4dddca7bcc12f833e37b54984", func := "escapement/escapementlaw13.PortsOwn", spec := "portsOwn", recurses := true, apart := false }
def PortsOwnSaid : Prop := portsOwnRow.holds Try.pinned (OpenSpec.ofChange portsOwnSpec)

/-- ITS FALSE NEIGHBOUR: 'it returns false'. Refute it at one input. -/
def portsOwnWrong : ChangeSpec := { name := "portsOwn", fn := fun _ => fun
  | [d] => { results := [.lit (.bool false)], args := [d] }
  | _ => none }
def PortsOwnWrongFalsely : Prop := portsOwnRow.holds Try.pinned (OpenSpec.ofChange portsOwnWrong)

/-- 'escapementlaw13.PortsWrong': WHATEVER THE INPUT: true; the input reads as it did. -/
def portsWrongSpec : ChangeSpec := { name := "portsWrong", fn := fun _ => fun
  | [d1, d2, d3] => { results := [.lit (.bool true)], args := [d1, d2, d3] }
  | _ => none }
def portsWrongRow : OpenClaim := { program := "ytogfbeibpfdleaa", sum := "13cb5ce32a7414735bb143a21f16305dd359c4f4dddca7bcc12f833e37b54984", func := "escapement/escapementlaw13.PortsWrong", spec := "portsWrong", recurses := true, apart := false }
def PortsWrongSaid : Prop := portsWrongRow.holds Try.pinned (OpenSpec.ofChange portsWrongSpec)

/-- ITS FALSE NEIGHBOUR: 'it returns false'. Refute it at one input. -/
def portsWrongWrong : ChangeSpec := { name := "portsWrong", fn := fun _ => fun
  | [d1, d2, d3] => { results := [.lit (.bool false)], args := [d1, d2, d3] }
  | _ => none }
def PortsWrongWrongFalsely : Prop := portsWrongRow.holds Try.pinned (OpenSpec.ofChange portsWrongWrong)

/-- 'escapementlaw13.PortsStrange': WHATEVER THE INPUT: true; the input reads as it did. -/
def portsStrangeSpec : ChangeSpec := { name := "portsStrange", fn := fun _ => fun
  | [d1, d2] => { results := [.lit (.bool true)], args := [d1, d2] }
  | _ => none }
def portsStrangeRow : OpenClaim := { program := "ytogfbeibpfdleaa", sum := "13cb5ce32a7414735bb143a21f16305dd359c4f4dddca7bcc12f833e37b54984", func := "escapement/escapementlaw13.PortsStrange", spec := "portsStrange", recurses := true, apart := false }
def PortsStrangeSaid : Prop := portsStrangeRow.holds Try.pinned (OpenSpec.ofChange portsStrangeSpec)

/-- ITS FALSE NEIGHBOUR: 'it returns false'. Refute it at one input. -/
def portsStrangeWrong : ChangeSpec := { name := "portsStrange", fn := fun _ => fun
  | [d1, d2] => { results := [.lit (.bool false)], args := [d1, d2] }
  | _ => none }
def PortsStrangeWrongFalsely : Prop := portsStrangeRow.holds Try.pinned (OpenSpec.ofChange portsStrangeWrong)

/-- 'escapementlaw13.PortsFresh': WHATEVER THE INPUT: true; the input reads as it did. -/
def portsFreshSpec : ChangeSpec := { name := "portsFresh", fn := fun _ => fun
  | [d1, d2, d3, d4] => { results := [.lit (.bool true)], args := [d1, d2, d3, d4] }
  | _ => none }
def portsFreshRow : OpenClaim := { program := "ytogfbeibpfdleaa", sum := "13cb5ce32a7414735bb143a21f16305dd359c4f4dddca7bcc12f833e37b54984", func := "escapement/escapementlaw13.PortsFresh", spec := "portsFresh", recurses := true, apart := false }
def PortsFreshSaid : Prop := portsFreshRow.holds Try.pinned (OpenSpec.ofChange portsFreshSpec)

/-- ITS FALSE NEIGHBOUR: 'it returns false'. Refute it at one input. -/
def portsFreshWrong : ChangeSpec := { name := "portsFresh", fn := fun _ => fun
  | [d1, d2, d3, d4] => { results := [.lit (.bool false)], args := [d1, d2, d3, d4] }
  | _ => none }
def PortsFreshWrongFalsely : Prop := portsFreshRow.holds Try.pinned (OpenSpec.ofChange portsFreshWrong)

/-- 'escapementlaw13.PortsClear': WHATEVER THE INPUT: true; the input reads as it did. -/
def portsClearSpec : ChangeSpec := { name := "portsClear", fn := fun _ => fun
  | [d1, d2, d3, d4] => { results := [.lit (.bool true)], args := [d1, d2, d3, d4] }
  | _ => none }
def portsClearRow : OpenClaim := { program := "ytogfbeibpfdleaa", sum := "13cb5ce32a7414735bb143a21f16305dd359c4f4dddca7bcc12f833e37b54984", func := "escapement/escapementlaw13.PortsClear", spec := "portsClear", recurses := true, apart := false }
def PortsClearSaid : Prop := portsClearRow.holds Try.pinned (OpenSpec.ofChange portsClearSpec)

/-- ITS FALSE NEIGHBOUR: 'it returns false'. Refute it at one input. -/
def portsClearWrong : ChangeSpec := { name := "portsClear", fn := fun _ => fun
  | [d1, d2, d3, d4] => { results := [.lit (.bool false)], args := [d1, d2, d3, d4] }
  | _ => none }
def PortsClearWrongFalsely : Prop := portsClearRow.holds Try.pinned (OpenSpec.ofChange portsClearWrong)

/-- 'escapementlaw13.PortsPlay': WHATEVER THE INPUT: true; the input reads as it did. -/
def portsPlaySpec : ChangeSpec := { name := "portsPlay", fn := fun _ => fun
  | [d1, d2, d3] => { results := [.lit (.bool true)], args := [d1, d2, d3] }
  | _ => none }
def portsPlayRow : OpenClaim := { program := "ytogfbeibpfdleaa", sum := "13cb5ce32a7414735bb143a21f16305dd359c4f4dddca7bcc12f833e37b54984", func := "escapement/escapementlaw13.PortsPlay", spec := "portsPlay", recurses := true, apart := false }
def PortsPlaySaid : Prop := portsPlayRow.holds Try.pinned (OpenSpec.ofChange portsPlaySpec)

/-- ITS FALSE NEIGHBOUR: 'it returns false'. Refute it at one input. -/
def portsPlayWrong : ChangeSpec := { name := "portsPlay", fn := fun _ => fun
  | [d1, d2, d3] => { results := [.lit (.bool false)], args := [d1, d2, d3] }
  | _ => none }
def PortsPlayWrongFalsely : Prop := portsPlayRow.holds Try.pinned (OpenSpec.ofChange portsPlayWrong)

/- THE SECOND FORM. 'bulk': how many values and letters a reading holds, each counted each time it is reached (what is shared counts as often as it is met; a slice's spare places count too). A statement '..UptoSaid' is the law's where the arguments, and the package variables that the reading takes, are together of bulk at most 1048576: NARROWER than '..Said'. Prove '..Said' where nothing that the law and all that it calls make is longer than what came in: it says more and counts as full. Else prove '..UptoSaid'. A law counts once. -/
mutual
def uptoBulk {H : Type} : DataW H → Nat
  | .lit (.string bytes) => bytes.length + 1
  | .lit _ => 1
  | .nil => 1
  | .ptr d => uptoBulk d + 1
  | .slice elems spare => uptoBulkAll elems + uptoBulkAll spare + 1
  | .agg parts => uptoBulkAll parts + 1
  | .iface _ d => uptoBulk d + 1
  | .map entries => uptoBulkEntries entries + 1
  | .held _ => 1
def uptoBulkAll {H : Type} : List (DataW H) → Nat
  | [] => 0
  | d :: r => uptoBulk d + uptoBulkAll r
def uptoBulkEntries {H : Type} : List (Lit × DataW H) → Nat
  | [] => 0
  | x :: r => uptoBulkEntry x + uptoBulkEntries r
def uptoBulkEntry {H : Type} : Lit × DataW H → Nat
  | (.string bytes, d) => bytes.length + uptoBulk d + 1
  | (_, d) => uptoBulk d + 1
 end
def uptoSmall : (H : Type) → List (DataW H) → Bool := fun _ ds => decide (uptoBulkAll ds ≤ 1048576)
def OpenSpec.upto (s : _root_.Go.ChangeSpec) : _root_.Go.OpenSpec := { _root_.Go.OpenSpec.ofChange s with cond := some uptoSmall }

/-- 'escapementlaw13.PortsQueue', WHERE WHAT IT READS IS OF BULK AT MOST 1048576: true; the input reads as it did. -/
def portsQueueUptoRow : OpenClaim := { program := "ytogfbeibpfdleaa", sum := "13cb5ce32a7414735bb143a21f16305dd359c4f4dddca7bcc12f833e37b54984", func := "escapement/escapementlaw13.PortsQueue", spec := "portsQueue", recurses := true, apart := false, narrowed := true }
def PortsQueueUptoSaid : Prop := portsQueueUptoRow.holds Try.pinned (OpenSpec.upto portsQueueSpec)

/-- 'escapementlaw13.PortsOwn', WHERE WHAT IT READS IS OF BULK AT MOST 1048576: true; the input reads as it did. -/
def portsOwnUptoRow : OpenClaim := { program := "ytogfbeibpfdleaa", sum := "13cb5ce32a7414735bb143a21f16305dd359c4f4dddca7bcc12f833e37b54984", func := "escapement/escapementlaw13.PortsOwn", spec := "portsOwn", recurses := true, apart := false, narrowed := true }
def PortsOwnUptoSaid : Prop := portsOwnUptoRow.holds Try.pinned (OpenSpec.upto portsOwnSpec)

/-- 'escapementlaw13.PortsWrong', WHERE WHAT IT READS IS OF BULK AT MOST 1048576: true; the input reads as it did. -/
def portsWrongUptoRow : OpenClaim := { program := "ytogfbeibpfdleaa", sum := "13cb5ce32a7414735bb143a21f16305dd359c4f4dddca7bcc12f833e37b54984", func := "escapement/escapementlaw13.PortsWrong", spec := "portsWrong", recurses := true, apart := false, narrowed := true }
def PortsWrongUptoSaid : Prop := portsWrongUptoRow.holds Try.pinned (OpenSpec.upto portsWrongSpec)

/-- 'escapementlaw13.PortsStrange', WHERE WHAT IT READS IS OF BULK AT MOST 1048576: true; the input reads as it did. -/
def portsStrangeUptoRow : OpenClaim := { program := "ytogfbeibpfdleaa", sum := "13cb5ce32a7414735bb143a21f16305dd359c4f4dddca7bcc12f833e37b54984", func := "escapement/escapementlaw13.PortsStrange", spec := "portsStrange", recurses := true, apart := false, narrowed := true }
def PortsStrangeUptoSaid : Prop := portsStrangeUptoRow.holds Try.pinned (OpenSpec.upto portsStrangeSpec)

/-- 'escapementlaw13.PortsFresh', WHERE WHAT IT READS IS OF BULK AT MOST 1048576: true; the input reads as it did. -/
def portsFreshUptoRow : OpenClaim := { program := "ytogfbeibpfdleaa", sum := "13cb5ce32a7414735bb143a21f16305dd359c4f4dddca7bcc12f833e37b54984", func := "escapement/escapementlaw13.PortsFresh", spec := "portsFresh", recurses := true, apart := false, narrowed := true }
def PortsFreshUptoSaid : Prop := portsFreshUptoRow.holds Try.pinned (OpenSpec.upto portsFreshSpec)

/-- 'escapementlaw13.PortsClear', WHERE WHAT IT READS IS OF BULK AT MOST 1048576: true; the input reads as it did. -/
def portsClearUptoRow : OpenClaim := { program := "ytogfbeibpfdleaa", sum := "13cb5ce32a7414735bb143a21f16305dd359c4f4dddca7bcc12f833e37b54984", func := "escapement/escapementlaw13.PortsClear", spec := "portsClear", recurses := true, apart := false, narrowed := true }
def PortsClearUptoSaid : Prop := portsClearUptoRow.holds Try.pinned (OpenSpec.upto portsClearSpec)

/-- 'escapementlaw13.PortsPlay', WHERE WHAT IT READS IS OF BULK AT MOST 1048576: true; the input reads as it did. -/
def portsPlayUptoRow : OpenClaim := { program := "ytogfbeibpfdleaa", sum := "13cb5ce32a7414735bb143a21f16305dd359c4f4dddca7bcc12f833e37b54984", func := "escapement/escapementlaw13.PortsPlay", spec := "portsPlay", recurses := true, apart := false, narrowed := true }
def PortsPlayUptoSaid : Prop := portsPlayUptoRow.holds Try.pinned (OpenSpec.upto portsPlaySpec)

end Rows
end Go.Proofs.Ytogfbeibpfdleaa
