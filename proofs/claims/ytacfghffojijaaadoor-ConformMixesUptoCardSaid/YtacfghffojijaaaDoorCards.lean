/-
  DERIVED. GIVEN WITH THE SEED: THE CARDS: each row of YtacfghffojijaaaDoorRows.lean that lists a variable, with what it lists TIED to the program's text (the seventh form; the later family's looks); each row that meets fmt, with fmt's text TOLD by the authors' own Lean function (tested against real Go, not proved from fmt's source: count such statements apart). THE CARD IS WHAT COUNTS. Prove the row's statement (the work); the ties are given (YtacfghffojijaaaDoorTie.lean); close each card by the builder's one call (the guide's Derived/Test/ToyasCard.lean, 'card_holds'). Laid BY PROGRAM, IN A SANDBOX (cutbox-door.mjs). By AI agents, Wed Nov 11 2026. No macro, syntax, notation, axiom, sorry.
-/
import Derived.Test.YtacfghffojijaaaDoorRows
import GoSem.ClaimSeven
namespace Go.Proofs.YtacfghffojijaaaDoor
namespace Rows

/-- THE TIED CARD OF 'dailieslaw20.ConformMixes'. -/
def conformMixesCard : Claim7 := { stood := { row := conformMixesRow, standIns := [], harness := (true, "a032b8aa0b8047bbc72d2aa5fd692570dba1567c99d099a4302c9deb4ef1f5f3"), looks := false }, kinds := [], alts := [], laidByText := true, laidKinds := [.data, .data, .pinned], laidTests := true, laidLooks := .later }
def ConformMixesCardSaid : Prop := Claim7.holds Tryd.pinned (.plain (OpenSpec.ofChange conformMixesSpec)) conformMixesCard

/-- THE TIED CARD OF 'dailieslaw20.ConformBetween'. -/
def conformBetweenCard : Claim7 := { stood := { row := conformBetweenRow, standIns := [], harness := (true, "a032b8aa0b8047bbc72d2aa5fd692570dba1567c99d099a4302c9deb4ef1f5f3"), looks := false }, kinds := [], alts := [], laidByText := true, laidKinds := [.data, .data, .pinned], laidTests := true, laidLooks := .later }
def ConformBetweenCardSaid : Prop := Claim7.holds Tryd.pinned (.plain (OpenSpec.ofChange conformBetweenSpec)) conformBetweenCard

/-- THE SECOND FORM's CARD OF 'dailieslaw20.ConformMixes'. -/
def conformMixesUptoCard : Claim7 := { stood := { row := conformMixesUptoRow, standIns := [], harness := (true, "a032b8aa0b8047bbc72d2aa5fd692570dba1567c99d099a4302c9deb4ef1f5f3"), looks := false }, kinds := [], alts := [], laidByText := true, laidKinds := [.data, .data, .pinned], laidTests := true, laidLooks := .later }
def ConformMixesUptoCardSaid : Prop := Claim7.holds Tryd.pinned (.plain (OpenSpec.upto conformMixesSpec)) conformMixesUptoCard

/-- THE SECOND FORM's CARD OF 'dailieslaw20.ConformBetween'. -/
def conformBetweenUptoCard : Claim7 := { stood := { row := conformBetweenUptoRow, standIns := [], harness := (true, "a032b8aa0b8047bbc72d2aa5fd692570dba1567c99d099a4302c9deb4ef1f5f3"), looks := false }, kinds := [], alts := [], laidByText := true, laidKinds := [.data, .data, .pinned], laidTests := true, laidLooks := .later }
def ConformBetweenUptoCardSaid : Prop := Claim7.holds Tryd.pinned (.plain (OpenSpec.upto conformBetweenSpec)) conformBetweenUptoCard
end Rows
end Go.Proofs.YtacfghffojijaaaDoor
