/-
  DERIVED. GIVEN WITH THE SEED: THE CARDS: each row of YtnagdileofjkeaaGreatDoorRows.lean that lists a variable, with what it lists TIED to the program's text (the seventh form; the later family's looks); each row that meets fmt, with fmt's text TOLD by the authors' own Lean function (tested against real Go, not proved from fmt's source: count such statements apart). THE CARD IS WHAT COUNTS. Prove the row's statement (the work); the ties are given (YtnagdileofjkeaaGreatDoorTie.lean); close each card by the builder's one call (the guide's Derived/Test/ToyasCard.lean, 'card_holds'). Laid BY PROGRAM, IN A SANDBOX (cutbox-door.mjs). By AI agents, Wed Nov 11 2026. No macro, syntax, notation, axiom, sorry.
-/
import Derived.Test.YtnagdileofjkeaaGreatDoorRows
import GoSem.ClaimSeven
namespace Go.Proofs.YtnagdileofjkeaaGreatDoor
namespace Rows

/-- THE TIED CARD OF 'dailieslaw13.ViewBounds'. -/
def viewBoundsCard : Claim7 := { stood := { row := viewBoundsRow, standIns := [], harness := (true, "e8d48b2086b9fa81498cfbe35ebcab3bf2c3894bdc57abf4ef52b37309784c5a"), looks := true }, kinds := [], alts := [], laidByText := true, laidKinds := [.data, .data, .data], laidTests := true, laidLooks := .later }
def ViewBoundsCardSaid : Prop := Claim7.holds Tryz.pinned (.plain (OpenSpec.ofChange viewBoundsSpec)) viewBoundsCard

/-- THE SECOND FORM's CARD OF 'dailieslaw13.ViewBounds'. -/
def viewBoundsUptoCard : Claim7 := { stood := { row := viewBoundsUptoRow, standIns := [], harness := (true, "e8d48b2086b9fa81498cfbe35ebcab3bf2c3894bdc57abf4ef52b37309784c5a"), looks := true }, kinds := [], alts := [], laidByText := true, laidKinds := [.data, .data, .data], laidTests := true, laidLooks := .later }
def ViewBoundsUptoCardSaid : Prop := Claim7.holds Tryz.pinned (.plain (OpenSpec.upto viewBoundsSpec)) viewBoundsUptoCard
end Rows
end Go.Proofs.YtnagdileofjkeaaGreatDoor
