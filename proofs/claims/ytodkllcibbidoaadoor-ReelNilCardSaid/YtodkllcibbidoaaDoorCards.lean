/-
  DERIVED. GIVEN WITH THE SEED: THE CARDS: each row of YtodkllcibbidoaaDoorRows.lean that lists a variable, with what it lists TIED to the program's text (the seventh form; the later family's looks); each row that meets fmt, with fmt's text TOLD by the authors' own Lean function (tested against real Go, not proved from fmt's source: count such statements apart). THE CARD IS WHAT COUNTS. Prove the row's statement (the work); the ties are given (YtodkllcibbidoaaDoorTie.lean); close each card by the builder's one call (the guide's Derived/Test/ToyasCard.lean, 'card_holds'). Laid BY PROGRAM, IN A SANDBOX (cutbox-door.mjs). By AI agents, Wed Nov 11 2026. No macro, syntax, notation, axiom, sorry.
-/
import Derived.Test.YtodkllcibbidoaaDoorRows
import GoSem.ClaimSeven
namespace Go.Proofs.YtodkllcibbidoaaDoor
namespace Rows

/-- THE TIED CARD OF 'dailieslaw16.ReelNames'. -/
def reelNamesCard : Claim7 := { stood := { row := reelNamesRow, standIns := [], harness := (true, "b62bf4f5977e43a1ca52c79ccfa9a215e9202ca6bebd920c8fdf627abf7cd230"), looks := false }, kinds := [], alts := [], laidByText := true, laidKinds := [.data, .pinned], laidTests := true, laidLooks := .later }
def ReelNamesCardSaid : Prop := Claim7.holds Tryd.pinned (.plain (OpenSpec.ofChange reelNamesSpec)) reelNamesCard

/-- THE TIED CARD OF 'dailieslaw16.ReelNil'. -/
def reelNilCard : Claim7 := { stood := { row := reelNilRow, standIns := [], harness := (true, "b62bf4f5977e43a1ca52c79ccfa9a215e9202ca6bebd920c8fdf627abf7cd230"), looks := false }, kinds := [], alts := [], laidByText := true, laidKinds := [.data, .pinned], laidTests := true, laidLooks := .later }
def ReelNilCardSaid : Prop := Claim7.holds Tryd.pinned (.plain (OpenSpec.ofChange reelNilSpec)) reelNilCard

/-- THE SECOND FORM's CARD OF 'dailieslaw16.ReelNames'. -/
def reelNamesUptoCard : Claim7 := { stood := { row := reelNamesUptoRow, standIns := [], harness := (true, "b62bf4f5977e43a1ca52c79ccfa9a215e9202ca6bebd920c8fdf627abf7cd230"), looks := false }, kinds := [], alts := [], laidByText := true, laidKinds := [.data, .pinned], laidTests := true, laidLooks := .later }
def ReelNamesUptoCardSaid : Prop := Claim7.holds Tryd.pinned (.plain (OpenSpec.upto reelNamesSpec)) reelNamesUptoCard

/-- THE SECOND FORM's CARD OF 'dailieslaw16.ReelNil'. -/
def reelNilUptoCard : Claim7 := { stood := { row := reelNilUptoRow, standIns := [], harness := (true, "b62bf4f5977e43a1ca52c79ccfa9a215e9202ca6bebd920c8fdf627abf7cd230"), looks := false }, kinds := [], alts := [], laidByText := true, laidKinds := [.data, .pinned], laidTests := true, laidLooks := .later }
def ReelNilUptoCardSaid : Prop := Claim7.holds Tryd.pinned (.plain (OpenSpec.upto reelNilSpec)) reelNilUptoCard
end Rows
end Go.Proofs.YtodkllcibbidoaaDoor
