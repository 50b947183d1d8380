/- The row of ReelNil and its card: for every input the law returns true, and each argument reads as it did; no condition but the row's own. -/
import Derived.Test.YtodkllcibbidoaaDoorRows
import Derived.Test.YtodkllcibbidoaaDoorRQ7
import Derived.Test.YtodkllcibbidoaaDoorCards
import Derived.Test.YtodkllcibbidoaaDoorTie
import Derived.WalkKit
import Derived.ProofKit
import Derived.OpenShut
import Derived.ShutString
import Derived.ChangeOld
import Derived.Below
import Derived.SizedLaws
import Derived.Deep.DeepHandedRow
import Derived.Lib.LaidTab

namespace Go.Proofs.YtodkllcibbidoaaDoor.reelNil
open Go.ChangeShapes Go.WideShapes Go.ChangeAt Go.RowKit
open Go.ChangeMaps (open_string shut_string)
set_option linter.unusedVariables false
theorem own : ownKnob Tryd.prog.godebug = none := by kernel_rfl
theorem laidOut : laidOutB Tryd.prog = true := by kernel_rfl
set_option maxRecDepth 100000 in
theorem contract (H : Type) (enc : TypeId × Value → H) (W : World) (base : Nat) (args : Array Value) (ds gs : List (DataW H)) (before : List MemPlace)
    (hval0 : ∀ (j : Nat) t v, Tryd.f4.params[j]? = some t → args[j]? = some v → Value.okWide Tryd.prog W .any base t v)
    (hW : DataW.Whole enc Tryd.prog Tryd.f4.params.toList Rows.reelNilSpec.vars false W args.toList ds gs before)
    (hsz0 : (DataW.weightsEach Tryd.prog (Tryd.f4.params.toList ++ Rows.reelNilSpec.plain.varTypes Tryd.prog) (ds ++ gs)).all (· ≤ reachBytes) = true) (hL : laidMetH Tryd.prog Rows.reelNilRow.laid W) :
    Calls Tryd.prog 4 args W fun e W' => ∃ v, e = .returned v ∧ Rows.reelNilSpec.post enc Tryd.prog Tryd.f4 false true false false W args v W' := by
  have hsz := hsz0
  have hval := hval0
  have hW' := hW
  obtain ⟨p, q, hA0, hV, rfl, hfz, hnd⟩ := hW
  have hA : DataW.TrodAll enc Tryd.prog W 0 (fun _ => true) true Tryd.f4.params.toList args.toList ds p := hA0
  rw [Tryd.params4] at hA hval hsz
  obtain ⟨v0, vs0, d0, ds0, p0, q0, hargs, rfl, rfl, h0, r0⟩ := trodAll_cons hA
  obtain ⟨rfl, rfl, rfl⟩ := trodAll_nil r0
  obtain rfl : args = #[v0] := by cases args; simp_all
  obtain ⟨rfl, rfl⟩ := trodVars_none hV
  have k0 := h0
  have lt0 : ∀ x ∈ p0, x.block < W.heap.size := by obtain ⟨m, hm⟩ := k0; exact DataW.trod_lt m _ _ _ hm
  have z0 := Go.Sh.dat_of h0
  clear hA0 hval0 hsz0
  refine (Go.Sh.YtodkllcibbidoaaDoor.nil_walk W v0 (hval 0 25 v0 rfl rfl) z0 hL).mono fun e W' ⟨he, bel⟩ => ?_
  subst he
  exact ⟨_, rfl, _, _, _, [], _, [], hW', trodAll_mk1 (shut_bool Tryd.underlying4 _), (trodAll_cons_mk (Below.trod laidOut (by kernel_rfl) (of_decide_eq_true (by kernel_rfl)) k0 bel lt0) trodAll_mk0), rfl, bel.frame _, fun h => by cases h⟩
noncomputable def plainL : List (String × DataW Unit) := Rows.reelNilRow.laid.filter fun x => x.2.handleName?.isNone
noncomputable def w0 (os : Os) : World := Go.Sh.handled Tryd.prog os []
noncomputable def laidW (os : Os) : World := (w0 os).layVars Tryd.prog plainL
theorem laidW_os (os : Os) : (laidW os).os = os := (World.layVars_os _ _ _).trans (Go.Sh.handled_os _ _ _)
theorem plain_met (os : Os) : laidMet Tryd.prog plainL (laidW os) := Go.Sh.laidMet_lay (by kernel_rfl) (by kernel_rfl)
theorem laid_met (os : Os) : laidMetH Tryd.prog Rows.reelNilRow.laid ((laidW os).forCall (fun _ _ => 0) ⟨#[], #[(.agg #[(.string ⟨#[]⟩), (.int .i64 0), (.int .i64 0)])], []⟩).memory :=
  laidMetH_of_parts ((plain_met os).of_heap (by simp [World.memory, World.forCall, Input.heap])) (by kernel_rfl)
theorem reads (os : Os) {H : Type} (enc : TypeId × Value → H) : ∃ places, DataW.whole enc Tryd.prog ((laidW os).forCall (fun _ _ => 0) ⟨#[], #[(.agg #[(.string ⟨#[]⟩), (.int .i64 0), (.int .i64 0)])], []⟩).memory Tryd.f4.params.toList Rows.reelNilSpec.vars false (#[(.agg #[(.string ⟨#[]⟩), (.int .i64 0), (.int .i64 0)])] : Array Value).toList 8 = some ([(.agg [(.lit (.string [])), (.lit (.int .i64 0)), (.lit (.int .i64 0))])], [], places) :=
  ⟨[], by kernel_rfl⟩
set_option maxRecDepth 100000 in
theorem lifted (os : Os) (started : os.Started) (H : Type) (enc : TypeId × Value → H) (F : Stop.Interp) :
    ReturnsInHanded {} Tryd.checked os 4 .any ((OpenSpec.ofChange Rows.reelNilSpec).preRow enc Tryd.prog Tryd.f4 Rows.reelNilRow.domain false Rows.reelNilRow.laid) (((OpenSpec.ofChange Rows.reelNilSpec).at F).post enc Tryd.prog Tryd.f4 false true false false) := by
  obtain ⟨places, hx⟩ := reads os enc
  refine returnsInHanded_of_row (C := Tryd.checked) (s := (OpenSpec.ofChange Rows.reelNilSpec)) own started (by kernel_rfl) Tryd.func4
    (witness_row_at (enc := enc) (C := Tryd.checked) false (laidW os) #[(.agg #[(.string ⟨#[]⟩), (.int .i64 0), (.int .i64 0)])] (laidW_os os) (by kernel_rfl) (by kernel_rfl) (by kernel_rfl)
      (OpenSpec.preRow_of_cond 8 hx (by kernel_rfl) (fun k hk => by cases hk) (by kernel_rfl) (laid_met os))) ?_
  intro W base args ds gs before hval hW _ hcond hsz hL _ _
  exact contract H enc W base args ds gs before hval hW hsz hL
theorem said : Rows.ReelNilSaid :=
  OpenClaim.holds_of_cond 4 Tryd.f4 rfl rfl rfl rfl rfl rfl rfl ⟨rfl, rfl, rfl, rfl, rfl⟩ rfl rfl rfl rfl rfl (by kernel_rfl) Tryd.func4 (by kernel_rfl)
    (of_decide_eq_true (by kernel_rfl)) (by unfold Func.isWrapper; first | (rw [if_pos (by decide +kernel)]; kernel_rfl) | (rw [if_neg (by decide +kernel)]; exact ⟨rfl, rfl⟩))
    (fun os started H enc _ F => by rw [OpenClaim.pre_eq_preRow]; exact lifted os started H enc F)
set_option maxRecDepth 100000 in
theorem plain (f : FuncId) (fn : Func) (hf : Tryd.pinned.checked.prog.funcNamed "dailies/dailieslaw16.ReelNil" = some f) (hfn : Tryd.pinned.checked.prog.funcs[f]? = some fn) :
    false = Tryd.pinned.checked.prog.looks [] ∧ ∀ (j : Nat) t, fn.params[j]? = some t → Tryd.pinned.checked.prog.wantsStandIn t = false := by
  obtain rfl : f = 4 := Option.some.inj ((show Tryd.prog.funcNamed "dailies/dailieslaw16.ReelNil" = some 4 by kernel_rfl).symm.trans hf) |>.symm
  obtain rfl : fn = Tryd.f4 := (Option.some.inj (Tryd.func4.symm.trans hfn)).symm
  refine ⟨by kernel_rfl, fun j t ht => ?_⟩
  rw [Tryd.params4] at ht
  have hm := Array.mem_of_getElem? ht
  simp only [List.mem_toArray, List.mem_cons, List.not_mem_nil, or_false] at hm
  clear ht
  rcases hm with rfl
  · exact (show Tryd.prog.wantsStandIn 25 = false by kernel_rfl)
theorem card : Rows.ReelNilCardSaid :=
  Claim7.holds_tied_plain_at .later [] _ _ _ _ said (fun _ h => by cases h) (by kernel_rfl) (fun _ h => by cases h) reelNil_row_tie rfl ⟨rfl, rfl⟩ (by kernel_rfl) rfl plain (by kernel_rfl)
#print axioms card
end Go.Proofs.YtodkllcibbidoaaDoor.reelNil
namespace Go.Proofs.YtodkllcibbidoaaDoor
/-- The row, under a short name, for the claim. -/
theorem reelNil_holds : Rows.ReelNilCardSaid := reelNil.card
end Go.Proofs.YtodkllcibbidoaaDoor
