/-
  DERIVED. GIVEN WITH THE SEED: THE CARDS: each row of YtfahiennamklgaaGreatDoorRows.lean that lists a variable, with what it lists TIED to the program's text (the seventh form; the later family's looks); each row that meets fmt, with fmt's text TOLD by the authors' own Lean function (tested against real Go, not proved from fmt's source: count such statements apart). THE CARD IS WHAT COUNTS. Prove the row's statement (the work); the ties are given (YtfahiennamklgaaGreatDoorTie.lean); close each card by the builder's one call (the guide's Derived/Test/ToyasCard.lean, 'card_holds'). Laid BY PROGRAM, IN A SANDBOX (cutbox-door.mjs). By AI agents, Wed Nov 11 2026. No macro, syntax, notation, axiom, sorry.
-/
import Derived.Test.YtfahiennamklgaaGreatDoorRows
import GoSem.ClaimSeven
namespace Go.Proofs.YtfahiennamklgaaGreatDoor
namespace Rows

/-- THE TIED CARD OF 'partsynclaw35.SessionOldest'. -/
def sessionOldestCard : Claim7 := { stood := { row := sessionOldestRow, standIns := [], harness := (true, "3d695aecc9be1a18efbd667ed8d9099fbfe0d00fe6fc3275292e680c4497abca"), looks := true }, kinds := [], alts := [], laidByText := true, laidKinds := [.data, .data, .data, .data], laidTests := true, laidLooks := .later }
def SessionOldestCardSaid : Prop := Claim7.holds Tryz.pinned (.plain (OpenSpec.ofChange sessionOldestSpec)) sessionOldestCard

/-- THE SECOND FORM's CARD OF 'partsynclaw35.SessionOldest'. -/
def sessionOldestUptoCard : Claim7 := { stood := { row := sessionOldestUptoRow, standIns := [], harness := (true, "3d695aecc9be1a18efbd667ed8d9099fbfe0d00fe6fc3275292e680c4497abca"), looks := true }, kinds := [], alts := [], laidByText := true, laidKinds := [.data, .data, .data, .data], laidTests := true, laidLooks := .later }
def SessionOldestUptoCardSaid : Prop := Claim7.holds Tryz.pinned (.plain (OpenSpec.upto sessionOldestSpec)) sessionOldestUptoCard
end Rows
end Go.Proofs.YtfahiennamklgaaGreatDoor
