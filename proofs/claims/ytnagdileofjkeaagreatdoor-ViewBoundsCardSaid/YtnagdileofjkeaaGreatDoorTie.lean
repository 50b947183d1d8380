/-
  DERIVED. GIVEN WITH THE SEED: THE PROGRAM's TIES (one call each: nine closed facts by the kernel) AND EACH ROW's TIE, after the 31st guide's Derived/Test/Toyas{Tie, Card}.lean. No idea stands in it: it is a product of the set-up. Laid BY PROGRAM, IN A SANDBOX (cutbox-door.mjs). By AI agents, Wed Nov 11 2026. No macro, syntax, notation, axiom, sorry.
-/
import Derived.Test.YtnagdileofjkeaaGreatDoorRows
import Derived.LaidByTextLater
import Derived.SevenTiedAt
import Derived.LaidSub
import Derived.LaidOnce
namespace Go.Proofs.YtnagdileofjkeaaGreatDoor
open Go
set_option maxRecDepth 100000
theorem seatTie1 : Tryz.prog.laidByTextLater [("dailies/golomb.rates", Rows.laid_dailies_golomb_rates), ("dailies/model.starts", Rows.laid_dailies_model_starts), ("dailies/model.rises", Rows.laid_dailies_model_rises)] [.data, .data, .data] true :=
  Program.laidByTextLater_by_one 26 8 24 (by kernel_rfl) (by kernel_rfl) (by kernel_rfl) (by kernel_rfl) (by kernel_rfl) (by kernel_rfl) (fun _ _ => by kernel_rfl)
theorem noOwnUnsafe : Tryz.pinned.checked.prog.headLifts.contains "ownunsafe" = false := by kernel_rfl
theorem tie : Tryz.prog.laidByTextLater [("dailies/golomb.rates", Rows.laid_dailies_golomb_rates), ("dailies/model.starts", Rows.laid_dailies_model_starts), ("dailies/model.rises", Rows.laid_dailies_model_rises)] [.data, .data, .data] true :=
  Program.laidByTextLater.sub seatTie1 ["dailies/golomb.rates", "dailies/model.starts", "dailies/model.rises"] (by kernel_rfl) (by kernel_rfl)
theorem viewBounds_row_tie : Rows.viewBoundsRow.laidByTextAt .later Tryz.pinned [.data, .data, .data] true :=
  OpenClaim.laidByTextAt_later rfl rfl tie noOwnUnsafe
theorem viewBoundsUpto_row_tie : Rows.viewBoundsUptoRow.laidByTextAt .later Tryz.pinned [.data, .data, .data] true :=
  OpenClaim.laidByTextAt_later rfl rfl tie noOwnUnsafe
end Go.Proofs.YtnagdileofjkeaaGreatDoor
