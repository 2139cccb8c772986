/-
  No cell of these rows narrows 'for every input' (looked for: loops, veiled, ifaces, maps, wideKeys, modest, calm, conditions, laid).
  DERIVED. THE GIVEN ROWS OF THIS SEAT. 5 by the template 'for every input the law returns true; each argument reads behind the call as it read before'; 0 by the template 'total and deterministic' (their statements: YtomcjmgbkpbdpaaTotals.lean).
  GIVEN WITH THE SEED: the statements are not yours to turn. If you find one false, say at which input.
  Laid BY PROGRAM, IN A SANDBOX (cutbox-rows.mjs): the forced cells as the released guide's own fill.sh prints them over the translation 4a7bdae7164d08e9… (all of the seat's roots in one cut). By AI agents, Wed Nov 11 2026. No macro, syntax, notation, axiom, sorry.
-/
import Derived.Test.YtomcjmgbkpbdpaaChecked
import GoSem.Claim
import GoSem.ClaimJoined
import GoSem.ClaimMapViews
import Derived.JoinedTies
import Derived.KernelRfl
namespace Go.Proofs.Ytomcjmgbkpbdpaa
/- THE CELL 'sum', in the pinned program and in every row, IS THE sha256 OF THE DUMP (.gsa) THAT YtomcjmgbkpbdpaaProg.lean LOADS. Nothing in Lean hashes anything: it is a label: what it is worth is what the hold of that sum in a sandbox is worth. -/
noncomputable def Try.pinned : Pinned := { name := "ytomcjmgbkpbdpaa", sum := "4a7bdae7164d08e94ec9f7eceae7933c440fb3dcd55b4b093664359575fd96ee", checked := Try.checked }
namespace Rows
def none {H : Type} : Left H := { results := [], args := [] }

/-- 'escapementlaw14.ReplicaKeys': WHATEVER THE INPUT: true; the input reads as it did. -/
def replicaKeysSpec : ChangeSpec := { name := "replicaKeys", fn := fun _ => fun
  | [d1, d2] => { results := [.lit (.bool true)], args := [d1, d2] }
  | _ => none }
def replicaKeysRow : OpenClaim := { program := "ytomcjmgbkpbdpaa", sum := "4a7bdae7164d08e94ec9f7eceae7933c440fb3dcd55b4b093664359575fd96ee", func := "escapement/escapementlaw14.ReplicaKeys", spec := "replicaKeys", recurses := true, apart := false }
def ReplicaKeysSaid : Prop := replicaKeysRow.holds Try.pinned (OpenSpec.ofChange replicaKeysSpec)

/-- ITS FALSE NEIGHBOUR: 'it returns false'. Refute it at one input. -/
def replicaKeysWrong : ChangeSpec := { name := "replicaKeys", fn := fun _ => fun
  | [d1, d2] => { results := [.lit (.bool false)], args := [d1, d2] }
  | _ => none }
def ReplicaKeysWrongFalsely : Prop := replicaKeysRow.holds Try.pinned (OpenSpec.ofChange replicaKeysWrong)

/-- 'escapementlaw14.ReplicaSwaps': WHATEVER THE INPUT: true; the input reads as it did. -/
def replicaSwapsSpec : ChangeSpec := { name := "replicaSwaps", fn := fun _ => fun
  | [d1, d2, d3] => { results := [.lit (.bool true)], args := [d1, d2, d3] }
  | _ => none }
def replicaSwapsRow : OpenClaim := { program := "ytomcjmgbkpbdpaa", sum := "4a7bdae7164d08e94ec9f7eceae7933c440fb3dcd55b4b093664359575fd96ee", func := "escapement/escapementlaw14.ReplicaSwaps", spec := "replicaSwaps", apart := false }
def ReplicaSwapsSaid : Prop := replicaSwapsRow.holds Try.pinned (OpenSpec.ofChange replicaSwapsSpec)

/-- ITS FALSE NEIGHBOUR: 'it returns false'. Refute it at one input. -/
def replicaSwapsWrong : ChangeSpec := { name := "replicaSwaps", fn := fun _ => fun
  | [d1, d2, d3] => { results := [.lit (.bool false)], args := [d1, d2, d3] }
  | _ => none }
def ReplicaSwapsWrongFalsely : Prop := replicaSwapsRow.holds Try.pinned (OpenSpec.ofChange replicaSwapsWrong)

/-- 'escapementlaw14.ReplicaVotes': WHATEVER THE INPUT: true; the input reads as it did. -/
def replicaVotesSpec : ChangeSpec := { name := "replicaVotes", fn := fun _ => fun
  | [d1, d2, d3] => { results := [.lit (.bool true)], args := [d1, d2, d3] }
  | _ => none }
def replicaVotesRow : OpenClaim := { program := "ytomcjmgbkpbdpaa", sum := "4a7bdae7164d08e94ec9f7eceae7933c440fb3dcd55b4b093664359575fd96ee", func := "escapement/escapementlaw14.ReplicaVotes", spec := "replicaVotes", recurses := true, apart := false }
def ReplicaVotesSaid : Prop := replicaVotesRow.holds Try.pinned (OpenSpec.ofChange replicaVotesSpec)

/-- ITS FALSE NEIGHBOUR: 'it returns false'. Refute it at one input. -/
def replicaVotesWrong : ChangeSpec := { name := "replicaVotes", fn := fun _ => fun
  | [d1, d2, d3] => { results := [.lit (.bool false)], args := [d1, d2, d3] }
  | _ => none }
def ReplicaVotesWrongFalsely : Prop := replicaVotesRow.holds Try.pinned (OpenSpec.ofChange replicaVotesWrong)

/-- 'escapementlaw14.ReplicaPlays': WHATEVER THE INPUT: true; the input reads as it did. -/
def replicaPlaysSpec : ChangeSpec := { name := "replicaPlays", fn := fun _ => fun
  | [d] => { results := [.lit (.bool true)], args := [d] }
  | _ => none }
def replicaPlaysRow : OpenClaim := { program := "ytomcjmgbkpbdpaa", sum := "4a7bdae7164d08e94ec9f7eceae7933c440fb3dcd55b4b093664359575fd96ee", func := "escapement/escapementlaw14.ReplicaPlays", spec := "replicaPlays", unfollowed := true, recurses := true, apart := false }
def ReplicaPlaysSaid : Prop := replicaPlaysRow.holds Try.pinned (OpenSpec.ofChange replicaPlaysSpec)

/-- ITS FALSE NEIGHBOUR: 'it returns false'. Refute it at one input. -/
def replicaPlaysWrong : ChangeSpec := { name := "replicaPlays", fn := fun _ => fun
  | [d] => { results := [.lit (.bool false)], args := [d] }
  | _ => none }
def ReplicaPlaysWrongFalsely : Prop := replicaPlaysRow.holds Try.pinned (OpenSpec.ofChange replicaPlaysWrong)

/-- 'escapementlaw14.ReplicaAlike': WHATEVER THE INPUT: true; the input reads as it did. -/
def replicaAlikeSpec : ChangeSpec := { name := "replicaAlike", fn := fun _ => fun
  | [d] => { results := [.lit (.bool true)], args := [d] }
  | _ => none }
def replicaAlikeRow : OpenClaim := { program := "ytomcjmgbkpbdpaa", sum := "4a7bdae7164d08e94ec9f7eceae7933c440fb3dcd55b4b093664359575fd96ee", func := "escapement/escapementlaw14.ReplicaAlike", spec := "replicaAlike", unfollowed := true, recurses := true, apart := false }
def ReplicaAlikeSaid : Prop := replicaAlikeRow.holds Try.pinned (OpenSpec.ofChange replicaAlikeSpec)

/-- ITS FALSE NEIGHBOUR: 'it returns false'. Refute it at one input. -/
def replicaAlikeWrong : ChangeSpec := { name := "replicaAlike", fn := fun _ => fun
  | [d] => { results := [.lit (.bool false)], args := [d] }
  | _ => none }
def ReplicaAlikeWrongFalsely : Prop := replicaAlikeRow.holds Try.pinned (OpenSpec.ofChange replicaAlikeWrong)

/- THE SECOND FORM. 'bulk': how many values and letters a reading holds, each counted each time it is reached (what is shared counts as often as it is met; a slice's spare places count too). A statement '..UptoSaid' is the law's where the arguments, and the package variables that the reading takes, are together of bulk at most 1048576: NARROWER than '..Said'. Prove '..Said' where nothing that the law and all that it calls make is longer than what came in: it says more and counts as full. Else prove '..UptoSaid'. A law counts once. -/
mutual
def uptoBulk {H : Type} : DataW H → Nat
  | .lit (.string bytes) => bytes.length + 1
  | .lit _ => 1
  | .nil => 1
  | .ptr d => uptoBulk d + 1
  | .slice elems spare => uptoBulkAll elems + uptoBulkAll spare + 1
  | .agg parts => uptoBulkAll parts + 1
  | .iface _ d => uptoBulk d + 1
  | .map entries => uptoBulkEntries entries + 1
  | .held _ => 1
def uptoBulkAll {H : Type} : List (DataW H) → Nat
  | [] => 0
  | d :: r => uptoBulk d + uptoBulkAll r
def uptoBulkEntries {H : Type} : List (Lit × DataW H) → Nat
  | [] => 0
  | x :: r => uptoBulkEntry x + uptoBulkEntries r
def uptoBulkEntry {H : Type} : Lit × DataW H → Nat
  | (.string bytes, d) => bytes.length + uptoBulk d + 1
  | (_, d) => uptoBulk d + 1
 end
def uptoSmall : (H : Type) → List (DataW H) → Bool := fun _ ds => decide (uptoBulkAll ds ≤ 1048576)
def OpenSpec.upto (s : _root_.Go.ChangeSpec) : _root_.Go.OpenSpec := { _root_.Go.OpenSpec.ofChange s with cond := some uptoSmall }

/-- 'escapementlaw14.ReplicaKeys', WHERE WHAT IT READS IS OF BULK AT MOST 1048576: true; the input reads as it did. -/
def replicaKeysUptoRow : OpenClaim := { program := "ytomcjmgbkpbdpaa", sum := "4a7bdae7164d08e94ec9f7eceae7933c440fb3dcd55b4b093664359575fd96ee", func := "escapement/escapementlaw14.ReplicaKeys", spec := "replicaKeys", recurses := true, apart := false, narrowed := true }
def ReplicaKeysUptoSaid : Prop := replicaKeysUptoRow.holds Try.pinned (OpenSpec.upto replicaKeysSpec)

/-- 'escapementlaw14.ReplicaSwaps', WHERE WHAT IT READS IS OF BULK AT MOST 1048576: true; the input reads as it did. -/
def replicaSwapsUptoRow : OpenClaim := { program := "ytomcjmgbkpbdpaa", sum := "4a7bdae7164d08e94ec9f7eceae7933c440fb3dcd55b4b093664359575fd96ee", func := "escapement/escapementlaw14.ReplicaSwaps", spec := "replicaSwaps", apart := false, narrowed := true }
def ReplicaSwapsUptoSaid : Prop := replicaSwapsUptoRow.holds Try.pinned (OpenSpec.upto replicaSwapsSpec)

/-- 'escapementlaw14.ReplicaVotes', WHERE WHAT IT READS IS OF BULK AT MOST 1048576: true; the input reads as it did. -/
def replicaVotesUptoRow : OpenClaim := { program := "ytomcjmgbkpbdpaa", sum := "4a7bdae7164d08e94ec9f7eceae7933c440fb3dcd55b4b093664359575fd96ee", func := "escapement/escapementlaw14.ReplicaVotes", spec := "replicaVotes", recurses := true, apart := false, narrowed := true }
def ReplicaVotesUptoSaid : Prop := replicaVotesUptoRow.holds Try.pinned (OpenSpec.upto replicaVotesSpec)

/-- 'escapementlaw14.ReplicaPlays', WHERE WHAT IT READS IS OF BULK AT MOST 1048576: true; the input reads as it did. -/
def replicaPlaysUptoRow : OpenClaim := { program := "ytomcjmgbkpbdpaa", sum := "4a7bdae7164d08e94ec9f7eceae7933c440fb3dcd55b4b093664359575fd96ee", func := "escapement/escapementlaw14.ReplicaPlays", spec := "replicaPlays", unfollowed := true, recurses := true, apart := false, narrowed := true }
def ReplicaPlaysUptoSaid : Prop := replicaPlaysUptoRow.holds Try.pinned (OpenSpec.upto replicaPlaysSpec)

/-- 'escapementlaw14.ReplicaAlike', WHERE WHAT IT READS IS OF BULK AT MOST 1048576: true; the input reads as it did. -/
def replicaAlikeUptoRow : OpenClaim := { program := "ytomcjmgbkpbdpaa", sum := "4a7bdae7164d08e94ec9f7eceae7933c440fb3dcd55b4b093664359575fd96ee", func := "escapement/escapementlaw14.ReplicaAlike", spec := "replicaAlike", unfollowed := true, recurses := true, apart := false, narrowed := true }
def ReplicaAlikeUptoSaid : Prop := replicaAlikeUptoRow.holds Try.pinned (OpenSpec.upto replicaAlikeSpec)

end Rows
end Go.Proofs.Ytomcjmgbkpbdpaa
