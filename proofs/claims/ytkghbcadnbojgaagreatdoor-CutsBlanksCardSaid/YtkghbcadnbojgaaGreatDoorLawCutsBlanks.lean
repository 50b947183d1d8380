/- The row of CutsBlanks and its card: for every input the law returns true, and each argument reads as it did; no condition but the row's own. -/
import Derived.Test.YtkghbcadnbojgaaGreatDoorRows
import Derived.Test.YtkghbcadnbojgaaGreatDoorQB7
import Derived.Test.YtkghbcadnbojgaaGreatDoorCards
import Derived.Test.YtkghbcadnbojgaaGreatDoorTie
import Derived.WalkKit
import Derived.ProofKit
import Derived.OpenShut
import Derived.ShutString
import Derived.ChangeOld
import Derived.Below
import Derived.SizedLaws
import Derived.Deep.DeepHandedRow
import Derived.Lib.LaidTab
namespace Go.Proofs.YtkghbcadnbojgaaGreatDoor.cutsBlanks
open Go.ChangeShapes Go.WideShapes Go.ChangeAt Go.RowKit
open Go.ChangeMaps (open_string shut_string)
set_option linter.unusedVariables false
theorem own : ownKnob Tryz.prog.godebug = none := by kernel_rfl
theorem laidOut : laidOutB Tryz.prog = true := by kernel_rfl
set_option maxRecDepth 100000 in
theorem contract (H : Type) (enc : TypeId × Value → H) (W : World) (base : Nat) (args : Array Value) (ds gs : List (DataW H)) (before : List MemPlace)
    (hval0 : ∀ (j : Nat) t v, Tryz.f5.params[j]? = some t → args[j]? = some v → Value.okWide Tryz.prog W .any base t v)
    (hW : DataW.Whole enc Tryz.prog Tryz.f5.params.toList Rows.cutsBlanksSpec.vars false W args.toList ds gs before)
    (hsz0 : (DataW.weightsEach Tryz.prog (Tryz.f5.params.toList ++ Rows.cutsBlanksSpec.plain.varTypes Tryz.prog) (ds ++ gs)).all (· ≤ reachBytes) = true) (hL : laidMetH Tryz.prog Rows.cutsBlanksRow.laid W) :
    Calls Tryz.prog 5 args W fun e W' => ∃ v, e = .returned v ∧ Rows.cutsBlanksSpec.post enc Tryz.prog Tryz.f5 false true false false W args v W' := by
  have hsz := hsz0
  have hval := hval0
  have hW' := hW
  obtain ⟨p, q, hA0, hV, rfl, hfz, hnd⟩ := hW
  have hA : DataW.TrodAll enc Tryz.prog W 0 (fun _ => true) true Tryz.f5.params.toList args.toList ds p := hA0
  rw [Tryz.params5] at hA hval hsz
  obtain ⟨v0, vs0, d0, ds0, p0, q0, hargs, rfl, rfl, h0, r0⟩ := trodAll_cons hA
  obtain ⟨v1, vs1, d1, ds1, p1, q1, rfl, rfl, rfl, h1, r1⟩ := trodAll_cons r0
  obtain ⟨rfl, rfl, rfl⟩ := trodAll_nil r1
  obtain rfl : args = #[v0, v1] := by cases args; simp_all
  obtain ⟨rfl, rfl⟩ := trodVars_none hV
  have k0 := h0
  have lt0 : ∀ x ∈ p0, x.block < W.heap.size := by obtain ⟨m, hm⟩ := k0; exact DataW.trod_lt m _ _ _ hm
  have z0 := Go.Sh.dat_of h0
  obtain ⟨a1, len1, cap1, rfl⟩ := okWide_slice Tryz.underlying42 (hval 1 42 v1 rfl rfl)
  have k1 := h1
  have lt1 : ∀ x ∈ p1, x.block < W.heap.size := by obtain ⟨m, hm⟩ := k1; exact DataW.trod_lt m _ _ _ hm
  have z1 := Go.Sh.dat_of h1
  have y1 : len1 * 8 ≤ 140737488351232 := Go.Sh.sized_rows hsz (j := 1) (t := 42) rfl rfl Tryz.underlying42 (by kernel_rfl) h1
  clear hA0 hval0 hsz0
  refine (Go.Sh.YtkghbcadnbojgaaGreatDoor.blanks_walk W v0 (hval 0 30 v0 rfl rfl) z0 a1 len1 cap1 z1 y1 hL).mono fun e W' ⟨he, bel⟩ => ?_
  subst he
  exact ⟨_, rfl, _, _, _, [], _, [], hW', trodAll_mk1 (shut_bool Tryz.underlying4 _), (trodAll_cons_mk (Below.trod laidOut (by kernel_rfl) (of_decide_eq_true (by kernel_rfl)) k0 bel lt0) (trodAll_cons_mk (Below.trod laidOut (by kernel_rfl) (of_decide_eq_true (by kernel_rfl)) k1 bel lt1) trodAll_mk0)), rfl, bel.frame _, fun h => by cases h⟩
noncomputable def plainL : List (String × DataW Unit) := Rows.cutsBlanksRow.laid.filter fun x => x.2.handleName?.isNone
noncomputable def w0 (os : Os) : World := Go.Sh.handled Tryz.prog os [(0, Go.Sh.handleV Tryz.prog [101, 114, 114, 111, 114])]
noncomputable def laidW (os : Os) : World := (w0 os).layVars Tryz.prog plainL
theorem laidW_os (os : Os) : (laidW os).os = os := (World.layVars_os _ _ _).trans (Go.Sh.handled_os _ _ _)
theorem plain_met (os : Os) : laidMet Tryz.prog plainL (laidW os) := Go.Sh.laidMet_lay (by kernel_rfl) (by kernel_rfl)
theorem laid_met (os : Os) : laidMetH Tryz.prog Rows.cutsBlanksRow.laid ((laidW os).forCall (fun _ _ => 0) ⟨#[], #[(.agg #[(.string ⟨#[]⟩), (.int .i64 0), (.slice none 0 0)]), (.slice none 0 0)], []⟩).memory :=
  laidMetH_of_parts ((plain_met os).of_heap (by simp [World.memory, World.forCall, Input.heap])) (by kernel_rfl)
theorem reads (os : Os) {H : Type} (enc : TypeId × Value → H) : ∃ places, DataW.whole enc Tryz.prog ((laidW os).forCall (fun _ _ => 0) ⟨#[], #[(.agg #[(.string ⟨#[]⟩), (.int .i64 0), (.slice none 0 0)]), (.slice none 0 0)], []⟩).memory Tryz.f5.params.toList Rows.cutsBlanksSpec.vars false (#[(.agg #[(.string ⟨#[]⟩), (.int .i64 0), (.slice none 0 0)]), (.slice none 0 0)] : Array Value).toList 8 = some ([(.agg [(.lit (.string [])), (.lit (.int .i64 0)), .nil]), .nil], [], places) :=
  ⟨[], by kernel_rfl⟩
set_option maxRecDepth 100000 in
theorem lifted (os : Os) (started : os.Started) (H : Type) (enc : TypeId × Value → H) (F : Stop.Interp) :
    ReturnsInHanded {} Tryz.checked os 5 .any ((OpenSpec.ofChange Rows.cutsBlanksSpec).preRow enc Tryz.prog Tryz.f5 Rows.cutsBlanksRow.domain false Rows.cutsBlanksRow.laid) (((OpenSpec.ofChange Rows.cutsBlanksSpec).at F).post enc Tryz.prog Tryz.f5 false true false false) := by
  obtain ⟨places, hx⟩ := reads os enc
  refine returnsInHanded_of_row (C := Tryz.checked) (s := (OpenSpec.ofChange Rows.cutsBlanksSpec)) own started (by kernel_rfl) Tryz.func5
    (witness_row_at (enc := enc) (C := Tryz.checked) false (laidW os) #[(.agg #[(.string ⟨#[]⟩), (.int .i64 0), (.slice none 0 0)]), (.slice none 0 0)] (laidW_os os) (by kernel_rfl) (by kernel_rfl) (by kernel_rfl)
      (OpenSpec.preRow_of_cond 8 hx (by kernel_rfl) (fun k hk => by cases hk) (by kernel_rfl) (laid_met os))) ?_
  intro W base args ds gs before hval hW _ hcond hsz hL _ _
  exact contract H enc W base args ds gs before hval hW hsz hL
theorem said : Rows.CutsBlanksSaid :=
  OpenClaim.holds_of_cond 5 Tryz.f5 rfl rfl rfl rfl rfl rfl rfl ⟨rfl, rfl, rfl, rfl, rfl⟩ rfl rfl rfl rfl rfl (by kernel_rfl) Tryz.func5 (by kernel_rfl)
    (of_decide_eq_true (by kernel_rfl)) (by unfold Func.isWrapper; first | (rw [if_pos (by decide +kernel)]; kernel_rfl) | (rw [if_neg (by decide +kernel)]; exact ⟨rfl, rfl⟩))
    (fun os started H enc _ F => by rw [OpenClaim.pre_eq_preRow]; exact lifted os started H enc F)
set_option maxRecDepth 100000 in
theorem plain (f : FuncId) (fn : Func) (hf : Tryz.pinned.checked.prog.funcNamed "dailies/dailieslaw19.CutsBlanks" = some f) (hfn : Tryz.pinned.checked.prog.funcs[f]? = some fn) :
    true = Tryz.pinned.checked.prog.looks [] ∧ ∀ (j : Nat) t, fn.params[j]? = some t → Tryz.pinned.checked.prog.wantsStandIn t = false := by
  obtain rfl : f = 5 := Option.some.inj ((show Tryz.prog.funcNamed "dailies/dailieslaw19.CutsBlanks" = some 5 by kernel_rfl).symm.trans hf) |>.symm
  obtain rfl : fn = Tryz.f5 := (Option.some.inj (Tryz.func5.symm.trans hfn)).symm
  refine ⟨by kernel_rfl, fun j t ht => ?_⟩
  rw [Tryz.params5] at ht
  have hm := Array.mem_of_getElem? ht
  simp only [List.mem_toArray, List.mem_cons, List.not_mem_nil, or_false] at hm
  clear ht
  rcases hm with rfl | rfl
  · exact (show Tryz.prog.wantsStandIn 30 = false by kernel_rfl)
  · exact (show Tryz.prog.wantsStandIn 42 = false by kernel_rfl)
theorem card : Rows.CutsBlanksCardSaid :=
  Claim7.holds_tied_plain_at .later [] _ _ _ _ said (fun _ h => by cases h) (by kernel_rfl) (fun _ h => by cases h) cutsBlanks_row_tie rfl ⟨rfl, rfl⟩ (by kernel_rfl) rfl plain (by kernel_rfl)
#print axioms card
end Go.Proofs.YtkghbcadnbojgaaGreatDoor.cutsBlanks
namespace Go.Proofs.YtkghbcadnbojgaaGreatDoor
/-- The row, under a short name, for the claim. -/
theorem cutsBlanks_holds : Rows.CutsBlanksCardSaid := cutsBlanks.card
end Go.Proofs.YtkghbcadnbojgaaGreatDoor
