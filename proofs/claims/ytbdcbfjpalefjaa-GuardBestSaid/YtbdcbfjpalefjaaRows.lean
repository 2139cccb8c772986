/-
  No cell of these rows narrows 'for every input' (looked for: loops, veiled, ifaces, maps, wideKeys, modest, calm, conditions, laid).
  DERIVED. THE GIVEN ROWS OF THIS SEAT. 4 by the template 'for every input the law returns true; each argument reads behind the call as it read before'; 0 by the template 'total and deterministic' (their statements: YtbdcbfjpalefjaaTotals.lean).
  GIVEN WITH THE SEED: the statements are not yours to turn. If you find one false, say at which input.
  Laid BY PROGRAM, IN A SANDBOX (cutbox-rows.mjs): the forced cells as the released guide's own fill.sh prints them over the translation f23cc8999c91acb5… (all of the seat's roots in one cut). By AI agents, Wed Nov 11 2026. No macro, syntax, notation, axiom, sorry.
-/
import Derived.Test.YtbdcbfjpalefjaaChecked
import GoSem.Claim
import GoSem.ClaimJoined
import GoSem.ClaimMapViews
import Derived.JoinedTies
import Derived.KernelRfl
namespace Go.Proofs.Ytbdcbfjpalefjaa
/- THE CELL 'sum', in the pinned program and in every row, IS THE sha256 OF THE DUMP (.gsa) THAT YtbdcbfjpalefjaaProg.lean LOADS. Nothing in Lean hashes anything: it is a label: what it is worth is what the hold of that sum in a sandbox is worth. -/
noncomputable def Try.pinned : Pinned := { name := "ytbdcbfjpalefjaa", sum := "f23cc8999c91acb50c10839c256dbffbef0351e91ec8620ba7278d7ca4634d46", checked := Try.checked }
namespace Rows
def none {H : Type} : Left H := { results := [], args := [] }

/-- 'escapementlaw09.GuardPlays': WHATEVER THE INPUT: true; the input reads as it did. -/
def guardPlaysSpec : ChangeSpec := { name := "guardPlays", fn := fun _ => fun
  | [d1, d2] => { results := [.lit (.bool true)], args := [d1, d2] }
  | _ => none }
def guardPlaysRow : OpenClaim := { program := "ytbdcbfjpalefjaa", sum := "f23cc8999c91acb50c10839c256dbffbef0351e91ec8620ba7278d7ca4634d46", func := "escapement/escapementlaw09.GuardPlays", spec := "guardPlays", recurses := true, apart := false }
def GuardPlaysSaid : Prop := guardPlaysRow.holds Try.pinned (OpenSpec.ofChange guardPlaysSpec)

/-- ITS FALSE NEIGHBOUR: 'it returns false'. Refute it at one input. -/
def guardPlaysWrong : ChangeSpec := { name := "guardPlays", fn := fun _ => fun
  | [d1, d2] => { results := [.lit (.bool false)], args := [d1, d2] }
  | _ => none }
def GuardPlaysWrongFalsely : Prop := guardPlaysRow.holds Try.pinned (OpenSpec.ofChange guardPlaysWrong)

/-- 'escapementlaw09.GuardApart': WHATEVER THE INPUT: true; the input reads as it did. -/
def guardApartSpec : ChangeSpec := { name := "guardApart", fn := fun _ => fun
  | [d1, d2] => { results := [.lit (.bool true)], args := [d1, d2] }
  | _ => none }
def guardApartRow : OpenClaim := { program := "ytbdcbfjpalefjaa", sum := "f23cc8999c91acb50c10839c256dbffbef0351e91ec8620ba7278d7ca4634d46", func := "escapement/escapementlaw09.GuardApart", spec := "guardApart", recurses := true, apart := false }
def GuardApartSaid : Prop := guardApartRow.holds Try.pinned (OpenSpec.ofChange guardApartSpec)

/-- ITS FALSE NEIGHBOUR: 'it returns false'. Refute it at one input. -/
def guardApartWrong : ChangeSpec := { name := "guardApart", fn := fun _ => fun
  | [d1, d2] => { results := [.lit (.bool false)], args := [d1, d2] }
  | _ => none }
def GuardApartWrongFalsely : Prop := guardApartRow.holds Try.pinned (OpenSpec.ofChange guardApartWrong)

/-- 'escapementlaw09.GuardOnce': WHATEVER THE INPUT: true; the input reads as it did. -/
def guardOnceSpec : ChangeSpec := { name := "guardOnce", fn := fun _ => fun
  | [d1, d2] => { results := [.lit (.bool true)], args := [d1, d2] }
  | _ => none }
def guardOnceRow : OpenClaim := { program := "ytbdcbfjpalefjaa", sum := "f23cc8999c91acb50c10839c256dbffbef0351e91ec8620ba7278d7ca4634d46", func := "escapement/escapementlaw09.GuardOnce", spec := "guardOnce", recurses := true, apart := false }
def GuardOnceSaid : Prop := guardOnceRow.holds Try.pinned (OpenSpec.ofChange guardOnceSpec)

/-- ITS FALSE NEIGHBOUR: 'it returns false'. Refute it at one input. -/
def guardOnceWrong : ChangeSpec := { name := "guardOnce", fn := fun _ => fun
  | [d1, d2] => { results := [.lit (.bool false)], args := [d1, d2] }
  | _ => none }
def GuardOnceWrongFalsely : Prop := guardOnceRow.holds Try.pinned (OpenSpec.ofChange guardOnceWrong)

/-- 'escapementlaw09.GuardBest': WHATEVER THE INPUT: true; the input reads as it did. -/
def guardBestSpec : ChangeSpec := { name := "guardBest", fn := fun _ => fun
  | [d1, d2] => { results := [.lit (.bool true)], args := [d1, d2] }
  | _ => none }
def guardBestRow : OpenClaim := { program := "ytbdcbfjpalefjaa", sum := "f23cc8999c91acb50c10839c256dbffbef0351e91ec8620ba7278d7ca4634d46", func := "escapement/escapementlaw09.GuardBest", spec := "guardBest", recurses := true, apart := false }
def GuardBestSaid : Prop := guardBestRow.holds Try.pinned (OpenSpec.ofChange guardBestSpec)

/-- ITS FALSE NEIGHBOUR: 'it returns false'. Refute it at one input. -/
def guardBestWrong : ChangeSpec := { name := "guardBest", fn := fun _ => fun
  | [d1, d2] => { results := [.lit (.bool false)], args := [d1, d2] }
  | _ => none }
def GuardBestWrongFalsely : Prop := guardBestRow.holds Try.pinned (OpenSpec.ofChange guardBestWrong)

/- THE SECOND FORM. 'bulk': how many values and letters a reading holds, each counted each time it is reached (what is shared counts as often as it is met; a slice's spare places count too). A statement '..UptoSaid' is the law's where the arguments, and the package variables that the reading takes, are together of bulk at most 1048576: NARROWER than '..Said'. Prove '..Said' where nothing that the law and all that it calls make is longer than what came in: it says more and counts as full. Else prove '..UptoSaid'. A law counts once. -/
mutual
def uptoBulk {H : Type} : DataW H → Nat
  | .lit (.string bytes) => bytes.length + 1
  | .lit _ => 1
  | .nil => 1
  | .ptr d => uptoBulk d + 1
  | .slice elems spare => uptoBulkAll elems + uptoBulkAll spare + 1
  | .agg parts => uptoBulkAll parts + 1
  | .iface _ d => uptoBulk d + 1
  | .map entries => uptoBulkEntries entries + 1
  | .held _ => 1
def uptoBulkAll {H : Type} : List (DataW H) → Nat
  | [] => 0
  | d :: r => uptoBulk d + uptoBulkAll r
def uptoBulkEntries {H : Type} : List (Lit × DataW H) → Nat
  | [] => 0
  | x :: r => uptoBulkEntry x + uptoBulkEntries r
def uptoBulkEntry {H : Type} : Lit × DataW H → Nat
  | (.string bytes, d) => bytes.length + uptoBulk d + 1
  | (_, d) => uptoBulk d + 1
 end
def uptoSmall : (H : Type) → List (DataW H) → Bool := fun _ ds => decide (uptoBulkAll ds ≤ 1048576)
def OpenSpec.upto (s : _root_.Go.ChangeSpec) : _root_.Go.OpenSpec := { _root_.Go.OpenSpec.ofChange s with cond := some uptoSmall }

/-- 'escapementlaw09.GuardPlays', WHERE WHAT IT READS IS OF BULK AT MOST 1048576: true; the input reads as it did. -/
def guardPlaysUptoRow : OpenClaim := { program := "ytbdcbfjpalefjaa", sum := "f23cc8999c91acb50c10839c256dbffbef0351e91ec8620ba7278d7ca4634d46", func := "escapement/escapementlaw09.GuardPlays", spec := "guardPlays", recurses := true, apart := false, narrowed := true }
def GuardPlaysUptoSaid : Prop := guardPlaysUptoRow.holds Try.pinned (OpenSpec.upto guardPlaysSpec)

/-- 'escapementlaw09.GuardApart', WHERE WHAT IT READS IS OF BULK AT MOST 1048576: true; the input reads as it did. -/
def guardApartUptoRow : OpenClaim := { program := "ytbdcbfjpalefjaa", sum := "f23cc8999c91acb50c10839c256dbffbef0351e91ec8620ba7278d7ca4634d46", func := "escapement/escapementlaw09.GuardApart", spec := "guardApart", recurses := true, apart := false, narrowed := true }
def GuardApartUptoSaid : Prop := guardApartUptoRow.holds Try.pinned (OpenSpec.upto guardApartSpec)

/-- 'escapementlaw09.GuardOnce', WHERE WHAT IT READS IS OF BULK AT MOST 1048576: true; the input reads as it did. -/
def guardOnceUptoRow : OpenClaim := { program := "ytbdcbfjpalefjaa", sum := "f23cc8999c91acb50c10839c256dbffbef0351e91ec8620ba7278d7ca4634d46", func := "escapement/escapementlaw09.GuardOnce", spec := "guardOnce", recurses := true, apart := false, narrowed := true }
def GuardOnceUptoSaid : Prop := guardOnceUptoRow.holds Try.pinned (OpenSpec.upto guardOnceSpec)

/-- 'escapementlaw09.GuardBest', WHERE WHAT IT READS IS OF BULK AT MOST 1048576: true; the input reads as it did. -/
def guardBestUptoRow : OpenClaim := { program := "ytbdcbfjpalefjaa", sum := "f23cc8999c91acb50c10839c256dbffbef0351e91ec8620ba7278d7ca4634d46", func := "escapement/escapementlaw09.GuardBest", spec := "guardBest", recurses := true, apart := false, narrowed := true }
def GuardBestUptoSaid : Prop := guardBestUptoRow.holds Try.pinned (OpenSpec.upto guardBestSpec)

end Rows
end Go.Proofs.Ytbdcbfjpalefjaa
