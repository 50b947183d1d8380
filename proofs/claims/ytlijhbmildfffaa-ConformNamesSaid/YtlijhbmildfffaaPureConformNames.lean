/- The statement ConformNames over numbers alone: the printed function of the law answers true; no condition. -/
import Derived.Test.YtlijhbmildfffaaPConformNamesx1
namespace Go.Proofs.Ytlijhbmildfffaa.Pure
open Go.RowKit Go.Proofs.Ytlijhbmildfffaa.PConformNames Go.Proofs.YtlijhbmildfffaaW.PrintWords Go.Proofs.YtlijhbmildfffaaW.PrintLast

/-- YOURS: dailieslaw20_ConformNames.f  = some true
What it reaches (each with k first where it has rounds; `.mono`: more rounds tell the same; `.l0`, ..: its loops, with `.mono_l`): dailieslaw20_ConformNames.f -/
theorem ConformNames : dailieslaw20_ConformNames.Pure := by
  rfl

end Go.Proofs.Ytlijhbmildfffaa.Pure
