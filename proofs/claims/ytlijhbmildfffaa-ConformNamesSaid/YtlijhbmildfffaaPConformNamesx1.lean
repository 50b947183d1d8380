-- PRINTED BY print.sh 35421559b90ae4d0a3588c463048766b98c2df88dd9212a6774a882060cdf62d: not written by this session
import Derived.Test.YtlijhbmildfffaaPConformNamesx0
namespace Go.Proofs.Ytlijhbmildfffaa.PConformNames
open Go.RowKit Go.Proofs.YtlijhbmildfffaaW.PrintWords Go.Proofs.YtlijhbmildfffaaW.PrintLast Go.Proofs.YtlijhbmildfffaaW.PrintMore
attribute [local go_sem] max2_int min2_int max_two min_two max_three min_three max_four min_four   -- for this text's walks alone
set_option linter.unusedVariables false
set_option linter.unusedSimpArgs false

/-! ### dailieslaw20_ConformNames: function 7 -/
def dailieslaw20_ConformNames.f  : Option (Bool) := some true
set_option maxHeartbeats 8000000 in
set_option maxRecDepth 100000 in
theorem dailieslaw20_ConformNames.calls  (r : Bool) (w : World) (h : dailieslaw20_ConformNames.f  = some r) :
    Calls Try.prog 7 #[] w fun e w' => e = .returned (.bool r) ∧ Drawn0 w w' := by
  have H : (some true) = some r := h
  clear h
  obtain rfl := Option.some.inj H
  go_enter Try.func7, Try.ntmps7
  go_wp2
  go_ret
  exact ⟨by first | rfl | (simp; done) | (simp [*]; done), by repeat (first | exact Drawn0.refl _ | apply Drawn0.step)⟩

/-- THE ONE PURE STATEMENT of dailieslaw20_ConformNames: yours. -/
def dailieslaw20_ConformNames.Pure : Prop := dailieslaw20_ConformNames.f  = some true
theorem dailieslaw20_ConformNames.walk (P : dailieslaw20_ConformNames.Pure)  (w : World)  :
    Calls Try.prog 7 #[] w fun e w' => e = .returned (.bool true) ∧ Below w.heap.size w w' := by
  have h := P  
  refine (dailieslaw20_ConformNames.calls  true w h).mono ?_
  rintro e w' ⟨rfl, hd⟩
  exact ⟨rfl, hd.below⟩

end Go.Proofs.Ytlijhbmildfffaa.PConformNames
