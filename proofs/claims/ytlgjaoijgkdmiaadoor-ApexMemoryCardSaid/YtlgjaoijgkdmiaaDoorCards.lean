/-
  DERIVED. GIVEN WITH THE SEED: THE CARDS: each row of YtlgjaoijgkdmiaaDoorRows.lean that lists a variable, with what it lists TIED to the program's text (the seventh form; the later family's looks); each row that meets fmt, with fmt's text TOLD by the authors' own Lean function (tested against real Go, not proved from fmt's source: count such statements apart). THE CARD IS WHAT COUNTS. Prove the row's statement (the work); the ties are given (YtlgjaoijgkdmiaaDoorTie.lean); close each card by the builder's one call (the guide's Derived/Test/ToyasCard.lean, 'card_holds'). Laid BY PROGRAM, IN A SANDBOX (cutbox-door.mjs). By AI agents, Wed Nov 11 2026. No macro, syntax, notation, axiom, sorry.
-/
import Derived.Test.YtlgjaoijgkdmiaaDoorRows
import GoSem.ClaimSeven
namespace Go.Proofs.YtlgjaoijgkdmiaaDoor
namespace Rows

/-- THE TIED CARD OF 'escapementlaw16.ApexBudget'. -/
def apexBudgetCard : Claim7 := { stood := { row := apexBudgetRow, standIns := [], harness := (true, "101b45a94dad8ecc7159bbb1b11cd99a81cf472a8702530aa6de0eb0944ddefb"), looks := true }, kinds := [], alts := [], laidByText := true, laidKinds := [.handle], laidTests := true, laidLooks := .later }
def ApexBudgetCardSaid : Prop := Claim7.holds Tryd.pinned (.plain (OpenSpec.ofChange apexBudgetSpec)) apexBudgetCard

/-- THE TIED CARD OF 'escapementlaw16.ApexCommands'. -/
def apexCommandsCard : Claim7 := { stood := { row := apexCommandsRow, standIns := [], harness := (true, "101b45a94dad8ecc7159bbb1b11cd99a81cf472a8702530aa6de0eb0944ddefb"), looks := true }, kinds := [], alts := [], laidByText := true, laidKinds := [.handle], laidTests := true, laidLooks := .later }
def ApexCommandsCardSaid : Prop := Claim7.holds Tryd.pinned (.plain (OpenSpec.ofChange apexCommandsSpec)) apexCommandsCard

/-- THE TIED CARD OF 'escapementlaw16.ApexStops'. -/
def apexStopsCard : Claim7 := { stood := { row := apexStopsRow, standIns := [], harness := (true, "101b45a94dad8ecc7159bbb1b11cd99a81cf472a8702530aa6de0eb0944ddefb"), looks := true }, kinds := [], alts := [], laidByText := true, laidKinds := [.handle], laidTests := true, laidLooks := .later }
def ApexStopsCardSaid : Prop := Claim7.holds Tryd.pinned (.plain (OpenSpec.ofChange apexStopsSpec)) apexStopsCard

/-- THE TIED CARD OF 'escapementlaw16.ApexMemory'. -/
def apexMemoryCard : Claim7 := { stood := { row := apexMemoryRow, standIns := [], harness := (true, "101b45a94dad8ecc7159bbb1b11cd99a81cf472a8702530aa6de0eb0944ddefb"), looks := true }, kinds := [], alts := [], laidByText := true, laidKinds := [.handle], laidTests := true, laidLooks := .later }
def ApexMemoryCardSaid : Prop := Claim7.holds Tryd.pinned (.plain (OpenSpec.ofChange apexMemorySpec)) apexMemoryCard

/-- THE TIED CARD OF 'escapementlaw16.ApexNews'. -/
def apexNewsCard : Claim7 := { stood := { row := apexNewsRow, standIns := [], harness := (true, "101b45a94dad8ecc7159bbb1b11cd99a81cf472a8702530aa6de0eb0944ddefb"), looks := true }, kinds := [], alts := [], laidByText := true, laidKinds := [.handle], laidTests := true, laidLooks := .later }
def ApexNewsCardSaid : Prop := Claim7.holds Tryd.pinned (.plain (OpenSpec.ofChange apexNewsSpec)) apexNewsCard

/-- THE SECOND FORM's CARD OF 'escapementlaw16.ApexBudget'. -/
def apexBudgetUptoCard : Claim7 := { stood := { row := apexBudgetUptoRow, standIns := [], harness := (true, "101b45a94dad8ecc7159bbb1b11cd99a81cf472a8702530aa6de0eb0944ddefb"), looks := true }, kinds := [], alts := [], laidByText := true, laidKinds := [.handle], laidTests := true, laidLooks := .later }
def ApexBudgetUptoCardSaid : Prop := Claim7.holds Tryd.pinned (.plain (OpenSpec.upto apexBudgetSpec)) apexBudgetUptoCard

/-- THE SECOND FORM's CARD OF 'escapementlaw16.ApexCommands'. -/
def apexCommandsUptoCard : Claim7 := { stood := { row := apexCommandsUptoRow, standIns := [], harness := (true, "101b45a94dad8ecc7159bbb1b11cd99a81cf472a8702530aa6de0eb0944ddefb"), looks := true }, kinds := [], alts := [], laidByText := true, laidKinds := [.handle], laidTests := true, laidLooks := .later }
def ApexCommandsUptoCardSaid : Prop := Claim7.holds Tryd.pinned (.plain (OpenSpec.upto apexCommandsSpec)) apexCommandsUptoCard

/-- THE SECOND FORM's CARD OF 'escapementlaw16.ApexStops'. -/
def apexStopsUptoCard : Claim7 := { stood := { row := apexStopsUptoRow, standIns := [], harness := (true, "101b45a94dad8ecc7159bbb1b11cd99a81cf472a8702530aa6de0eb0944ddefb"), looks := true }, kinds := [], alts := [], laidByText := true, laidKinds := [.handle], laidTests := true, laidLooks := .later }
def ApexStopsUptoCardSaid : Prop := Claim7.holds Tryd.pinned (.plain (OpenSpec.upto apexStopsSpec)) apexStopsUptoCard

/-- THE SECOND FORM's CARD OF 'escapementlaw16.ApexMemory'. -/
def apexMemoryUptoCard : Claim7 := { stood := { row := apexMemoryUptoRow, standIns := [], harness := (true, "101b45a94dad8ecc7159bbb1b11cd99a81cf472a8702530aa6de0eb0944ddefb"), looks := true }, kinds := [], alts := [], laidByText := true, laidKinds := [.handle], laidTests := true, laidLooks := .later }
def ApexMemoryUptoCardSaid : Prop := Claim7.holds Tryd.pinned (.plain (OpenSpec.upto apexMemorySpec)) apexMemoryUptoCard

/-- THE SECOND FORM's CARD OF 'escapementlaw16.ApexNews'. -/
def apexNewsUptoCard : Claim7 := { stood := { row := apexNewsUptoRow, standIns := [], harness := (true, "101b45a94dad8ecc7159bbb1b11cd99a81cf472a8702530aa6de0eb0944ddefb"), looks := true }, kinds := [], alts := [], laidByText := true, laidKinds := [.handle], laidTests := true, laidLooks := .later }
def ApexNewsUptoCardSaid : Prop := Claim7.holds Tryd.pinned (.plain (OpenSpec.upto apexNewsSpec)) apexNewsUptoCard
end Rows
end Go.Proofs.YtlgjaoijgkdmiaaDoor
