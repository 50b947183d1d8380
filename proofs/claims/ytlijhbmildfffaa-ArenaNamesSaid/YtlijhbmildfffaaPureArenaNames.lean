/- The statement ArenaNames over numbers alone: the printed function of the law answers true; no condition. -/
import Derived.Test.YtlijhbmildfffaaPArenaNamesx1
namespace Go.Proofs.Ytlijhbmildfffaa.Pure
open Go.RowKit Go.Proofs.Ytlijhbmildfffaa.PArenaNames Go.Proofs.YtlijhbmildfffaaW.PrintWords Go.Proofs.YtlijhbmildfffaaW.PrintLast

/-- YOURS: dailieslaw11_ArenaNames.f  = some true
What it reaches (each with k first where it has rounds; `.mono`: more rounds tell the same; `.l0`, ..: its loops, with `.mono_l`): dailieslaw11_ArenaNames.f -/
theorem ArenaNames : dailieslaw11_ArenaNames.Pure := by
  rfl

end Go.Proofs.Ytlijhbmildfffaa.Pure
