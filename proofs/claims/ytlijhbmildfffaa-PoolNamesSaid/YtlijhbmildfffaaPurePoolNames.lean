/- The statement PoolNames over numbers alone: the printed function of the law answers true; no condition. -/
import Derived.Test.YtlijhbmildfffaaPPoolNamesx1
namespace Go.Proofs.Ytlijhbmildfffaa.Pure
open Go.RowKit Go.Proofs.Ytlijhbmildfffaa.PPoolNames Go.Proofs.YtlijhbmildfffaaW.PrintWords Go.Proofs.YtlijhbmildfffaaW.PrintLast

/-- YOURS: dailieslaw14_PoolNames.f  = some true
What it reaches (each with k first where it has rounds; `.mono`: more rounds tell the same; `.l0`, ..: its loops, with `.mono_l`): dailieslaw14_PoolNames.f -/
theorem PoolNames : dailieslaw14_PoolNames.Pure := by
  rfl

end Go.Proofs.Ytlijhbmildfffaa.Pure
