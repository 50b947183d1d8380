/- CutsNames: the run, reckoned by the kernel; the walk. No condition but the row's own: the listed variables. -/
import Derived.Test.YtkghbcadnbojgaaGreatDoorUA
import Derived.Test.YtkghbcadnbojgaaGreatDoorShGlob
import Derived.Test.YtkghbcadnbojgaaGreatDoorRows
import Derived.KernelRfl
namespace Go.Sh.YtkghbcadnbojgaaGreatDoor
open Go Go.Proofs Go.RowKit Go.ChangeShapes Go.WideShapes Go.Sh.Ev
set_option linter.unusedVariables false
set_option maxRecDepth 100000
/-- the one variable that the run reads -/
noncomputable def gl : Globs := fun b => bif Nat.beq b 3 then flatD Go.Proofs.YtkghbcadnbojgaaGreatDoor.Rows.laid_dailies_timecode_table else none
theorem gl_ok {W : World} (h : laidMetH Tryz.prog Go.Proofs.YtkghbcadnbojgaaGreatDoor.Rows.cutsNamesRow.laid W) : GlobOk gl W := by
  intro b l hl
  unfold gl at hl
  cases hb : Nat.beq b 3 with
  | false => rw [hb] at hl; cases hl
  | true =>
    rw [hb] at hl
    have := Nat.eq_of_beq_eq_true hb
    subst this
    exact cells_of_laid h (n := "dailies/timecode.table") ⟨by repeat (first | exact List.Mem.head _ | apply List.Mem.tail), by kernel_rfl, by kernel_rfl, ⟨_, rfl, by kernel_rfl⟩, hl⟩
theorem names_run : okTrue (bRun Tryz.prog gl 1000 annA (fun _ => false) 60 3 [] ⟨0, .leaf⟩) = true := by kernel_rfl
theorem names_walk (W : World) (hL : laidMetH Tryz.prog Go.Proofs.YtkghbcadnbojgaaGreatDoor.Rows.cutsNamesRow.laid W) : Calls Tryz.prog 3 #[] W fun e w' => e = .returned (.bool true) ∧ Below W.heap.size W w' := by
  obtain ⟨w', h, gr⟩ := closed_true (ann := annA) (prim := noPrim) (isPrim := fun _ => false) (fun _ _ _ _ => rfl) (gl_ok hL) names_run
  exact (calls_of_run (by kernel_rfl) noPrim_ok h).mono fun e v ⟨h1, h2⟩ => ⟨h1, h2 ▸ below_of_grown gr⟩
end Go.Sh.YtkghbcadnbojgaaGreatDoor
