/- The statement PictureNames over numbers alone: the printed function of the law answers true; no condition. -/
import Derived.Test.YtlijhbmildfffaaPPictureNamesx1
namespace Go.Proofs.Ytlijhbmildfffaa.Pure
open Go.RowKit Go.Proofs.Ytlijhbmildfffaa.PPictureNames Go.Proofs.YtlijhbmildfffaaW.PrintWords Go.Proofs.YtlijhbmildfffaaW.PrintLast

/-- YOURS: dailieslaw12_PictureNames.f  = some true
What it reaches (each with k first where it has rounds; `.mono`: more rounds tell the same; `.l0`, ..: its loops, with `.mono_l`): dailieslaw12_num.f, dailieslaw12_PictureNames.f -/
theorem PictureNames : dailieslaw12_PictureNames.Pure := by
  rfl

end Go.Proofs.Ytlijhbmildfffaa.Pure
