/- The layer 'Sh': a world in which listed variables lie, laid by the kit's own function, a type's handle among them: for witnesses. Conditions: those of each statement. -/
import Derived.Lay
import Derived.LaidHandle
namespace Go.Sh
open Go
/-- a type's handle, by the type's name -/
noncomputable def handleV (P : Program) (name : List UInt8) : Value :=
  .iface (((P.cutTypes.find? (·.1 == "internal/reflectlite.rtype")).map (·.2)).getD 0) (.agg #[typeHandle P (((List.range P.types.size).find? fun t => P.rowNamed t name).getD 0)])
/-- the settled world, some variables' one cell set -/
noncomputable def handled (P : Program) (os : Os) (l : List (Nat × Value)) : World :=
  l.foldl (fun w x => { w with heap := w.heap.modify x.1 fun
      | .cells _ t frozen => .cells #[x.2] t frozen
      | o => o }) (World.holding P os ⟨#[], #[], []⟩)
theorem handled_os (P : Program) (os : Os) (l : List (Nat × Value)) : (handled P os l).os = os := by
  have key : ∀ (l : List (Nat × Value)) (w : World), (l.foldl (fun w x => { w with heap := w.heap.modify x.1 fun
      | .cells _ t frozen => .cells #[x.2] t frozen
      | o => o }) w).os = w.os := by
    intro l
    induction l with
    | nil => intro w; rfl
    | cons x r ih => intro w; rw [List.foldl_cons, ih]
  exact key l _
theorem laidMet_lay {P : Program} {w0 : World} {laid : List (String × DataW Unit)} (hf : w0.layFits P laid [] = true) (hi : w0.layIfaces P laid (w0.layVars P laid) = true) : laidMet P laid (w0.layVars P laid) := by
  have e1 : (laid.filter fun x => (laid.map (·.1)).contains x.1) = laid := List.filter_eq_self.2 fun x hx => List.contains_iff_mem.2 (List.mem_map.2 ⟨x, hx, rfl⟩)
  have e2 : (laid.filter fun x => !(laid.map (·.1)).contains x.1) = [] := List.filter_eq_nil_iff.2 fun x hx => by rw [List.contains_iff_mem.2 (List.mem_map.2 ⟨x, hx, rfl⟩)]; simp
  exact laidMet_layVars (w0 := w0) (laid.map (·.1)) [] (by rw [e1]) (by rw [e1]; exact hf) (by rw [e1]; exact hi) (by rw [e2]; exact LaidIn.none)
end Go.Sh
