/- The statement SessionNames over numbers alone: the printed function of the law answers true; no condition. -/
import Derived.Test.YtlijhbmildfffaaPSessionNamesx1
namespace Go.Proofs.Ytlijhbmildfffaa.Pure
open Go.RowKit Go.Proofs.Ytlijhbmildfffaa.PSessionNames Go.Proofs.YtlijhbmildfffaaW.PrintWords Go.Proofs.YtlijhbmildfffaaW.PrintLast

/-- YOURS: dailieslaw17_SessionNames.f  = some true
What it reaches (each with k first where it has rounds; `.mono`: more rounds tell the same; `.l0`, ..: its loops, with `.mono_l`): dailieslaw17_SessionNames.f -/
theorem SessionNames : dailieslaw17_SessionNames.Pure := by
  rfl

end Go.Proofs.Ytlijhbmildfffaa.Pure
