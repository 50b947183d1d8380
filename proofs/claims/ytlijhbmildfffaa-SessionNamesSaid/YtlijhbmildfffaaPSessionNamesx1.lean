-- PRINTED BY print.sh 35421559b90ae4d0a3588c463048766b98c2df88dd9212a6774a882060cdf62d: not written by this session
import Derived.Test.YtlijhbmildfffaaPSessionNamesx0
namespace Go.Proofs.Ytlijhbmildfffaa.PSessionNames
open Go.RowKit Go.Proofs.YtlijhbmildfffaaW.PrintWords Go.Proofs.YtlijhbmildfffaaW.PrintLast Go.Proofs.YtlijhbmildfffaaW.PrintMore
attribute [local go_sem] max2_int min2_int max_two min_two max_three min_three max_four min_four   -- for this text's walks alone
set_option linter.unusedVariables false
set_option linter.unusedSimpArgs false

/-! ### dailieslaw17_SessionNames: function 6 -/
def dailieslaw17_SessionNames.f  : Option (Bool) := some true
set_option maxHeartbeats 8000000 in
set_option maxRecDepth 100000 in
theorem dailieslaw17_SessionNames.calls  (r : Bool) (w : World) (h : dailieslaw17_SessionNames.f  = some r) :
    Calls Try.prog 6 #[] w fun e w' => e = .returned (.bool r) ∧ Drawn0 w w' := by
  have H : (some true) = some r := h
  clear h
  obtain rfl := Option.some.inj H
  go_enter Try.func6, Try.ntmps6
  go_wp2
  go_ret
  exact ⟨by first | rfl | (simp; done) | (simp [*]; done), by repeat (first | exact Drawn0.refl _ | apply Drawn0.step)⟩

/-- THE ONE PURE STATEMENT of dailieslaw17_SessionNames: yours. -/
def dailieslaw17_SessionNames.Pure : Prop := dailieslaw17_SessionNames.f  = some true
theorem dailieslaw17_SessionNames.walk (P : dailieslaw17_SessionNames.Pure)  (w : World)  :
    Calls Try.prog 6 #[] w fun e w' => e = .returned (.bool true) ∧ Below w.heap.size w w' := by
  have h := P  
  refine (dailieslaw17_SessionNames.calls  true w h).mono ?_
  rintro e w' ⟨rfl, hd⟩
  exact ⟨rfl, hd.below⟩

end Go.Proofs.Ytlijhbmildfffaa.PSessionNames
