/-
  DERIVED. GIVEN WITH THE SEED: THE CARDS: each row of YtkhoaaoddpjnpaaGreatDoorRows.lean that lists a variable, with what it lists TIED to the program's text (the seventh form; the later family's looks); each row that meets fmt, with fmt's text TOLD by the authors' own Lean function (tested against real Go, not proved from fmt's source: count such statements apart). THE CARD IS WHAT COUNTS. Prove the row's statement (the work); the ties are given (YtkhoaaoddpjnpaaGreatDoorTie.lean); close each card by the builder's one call (the guide's Derived/Test/ToyasCard.lean, 'card_holds'). Laid BY PROGRAM, IN A SANDBOX (cutbox-door.mjs). By AI agents, Wed Nov 11 2026. No macro, syntax, notation, axiom, sorry.
-/
import Derived.Test.YtkhoaaoddpjnpaaGreatDoorRows
import GoSem.ClaimSeven
namespace Go.Proofs.YtkhoaaoddpjnpaaGreatDoor
namespace Rows

/-- THE TIED CARD OF 'escritoirelaw19.TallyRates'. -/
def tallyRatesCard : Claim7 := { stood := { row := tallyRatesRow, standIns := [], harness := (true, "5f9e06bd4610c3ee9ce4db56b6123886ee57be5e4c302594efd5db534351addc"), looks := false }, kinds := [], alts := [], laidByText := true, laidKinds := [.data, .data, .data, .data, .pinned, .pinned], laidTests := true, laidLooks := .later }
def TallyRatesCardSaid : Prop := Claim7.holds Tryz.pinned (.plain (OpenSpec.ofChange tallyRatesSpec)) tallyRatesCard

/-- THE SECOND FORM's CARD OF 'escritoirelaw19.TallyRates'. -/
def tallyRatesUptoCard : Claim7 := { stood := { row := tallyRatesUptoRow, standIns := [], harness := (true, "5f9e06bd4610c3ee9ce4db56b6123886ee57be5e4c302594efd5db534351addc"), looks := false }, kinds := [], alts := [], laidByText := true, laidKinds := [.data, .data, .data, .data, .pinned, .pinned], laidTests := true, laidLooks := .later }
def TallyRatesUptoCardSaid : Prop := Claim7.holds Tryz.pinned (.plain (OpenSpec.upto tallyRatesSpec)) tallyRatesUptoCard
end Rows
end Go.Proofs.YtkhoaaoddpjnpaaGreatDoor
