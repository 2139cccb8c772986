/-
  DERIVED. GIVEN WITH THE SEED: THE CARDS: each row of YtohmnkjiohjjoaaDoorRows.lean that lists a variable, with what it lists TIED to the program's text (the seventh form; the later family's looks); each row that meets fmt, with fmt's text TOLD by the authors' own Lean function (tested against real Go, not proved from fmt's source: count such statements apart). THE CARD IS WHAT COUNTS. Prove the row's statement (the work); the ties are given (YtohmnkjiohjjoaaDoorTie.lean); close each card by the builder's one call (the guide's Derived/Test/ToyasCard.lean, 'card_holds'). Laid BY PROGRAM, IN A SANDBOX (cutbox-door.mjs). By AI agents, Wed Nov 11 2026. No macro, syntax, notation, axiom, sorry.
-/
import Derived.Test.YtohmnkjiohjjoaaDoorRows
import GoSem.ClaimSeven
namespace Go.Proofs.YtohmnkjiohjjoaaDoor
namespace Rows

/-- THE TIED CARD OF 'escapementlaw01.FaultWraps'. -/
def faultWrapsCard : Claim7 := { stood := { row := faultWrapsRow, standIns := [], harness := (true, "3beafe674b37561b4a711a792d58ef452e1827982a80da634168e974a0310e97"), looks := true }, kinds := [], alts := [], laidByText := true, laidKinds := [.handle], laidTests := true, laidLooks := .later }
def FaultWrapsCardSaid : Prop := Claim7.holds Tryd.pinned (.plain (OpenSpec.ofChange faultWrapsSpec)) faultWrapsCard

/-- THE TIED CARD OF 'escapementlaw01.FaultHas'. -/
def faultHasCard : Claim7 := { stood := { row := faultHasRow, standIns := [], harness := (true, "3beafe674b37561b4a711a792d58ef452e1827982a80da634168e974a0310e97"), looks := true }, kinds := [], alts := [], laidByText := true, laidKinds := [.handle], laidTests := true, laidLooks := .later }
def FaultHasCardSaid : Prop := Claim7.holds Tryd.pinned (.plain (OpenSpec.ofChange faultHasSpec)) faultHasCard

/-- THE TIED CARD OF 'escapementlaw01.FaultChain'. -/
def faultChainCard : Claim7 := { stood := { row := faultChainRow, standIns := [], harness := (true, "3beafe674b37561b4a711a792d58ef452e1827982a80da634168e974a0310e97"), looks := true }, kinds := [], alts := [], laidByText := true, laidKinds := [.handle], laidTests := true, laidLooks := .later }
def FaultChainCardSaid : Prop := Claim7.holds Tryd.pinned (.plain (OpenSpec.ofChange faultChainSpec)) faultChainCard

/-- THE SECOND FORM's CARD OF 'escapementlaw01.FaultWraps'. -/
def faultWrapsUptoCard : Claim7 := { stood := { row := faultWrapsUptoRow, standIns := [], harness := (true, "3beafe674b37561b4a711a792d58ef452e1827982a80da634168e974a0310e97"), looks := true }, kinds := [], alts := [], laidByText := true, laidKinds := [.handle], laidTests := true, laidLooks := .later }
def FaultWrapsUptoCardSaid : Prop := Claim7.holds Tryd.pinned (.plain (OpenSpec.upto faultWrapsSpec)) faultWrapsUptoCard

/-- THE SECOND FORM's CARD OF 'escapementlaw01.FaultHas'. -/
def faultHasUptoCard : Claim7 := { stood := { row := faultHasUptoRow, standIns := [], harness := (true, "3beafe674b37561b4a711a792d58ef452e1827982a80da634168e974a0310e97"), looks := true }, kinds := [], alts := [], laidByText := true, laidKinds := [.handle], laidTests := true, laidLooks := .later }
def FaultHasUptoCardSaid : Prop := Claim7.holds Tryd.pinned (.plain (OpenSpec.upto faultHasSpec)) faultHasUptoCard

/-- THE SECOND FORM's CARD OF 'escapementlaw01.FaultChain'. -/
def faultChainUptoCard : Claim7 := { stood := { row := faultChainUptoRow, standIns := [], harness := (true, "3beafe674b37561b4a711a792d58ef452e1827982a80da634168e974a0310e97"), looks := true }, kinds := [], alts := [], laidByText := true, laidKinds := [.handle], laidTests := true, laidLooks := .later }
def FaultChainUptoCardSaid : Prop := Claim7.holds Tryd.pinned (.plain (OpenSpec.upto faultChainSpec)) faultChainUptoCard
end Rows
end Go.Proofs.YtohmnkjiohjjoaaDoor
