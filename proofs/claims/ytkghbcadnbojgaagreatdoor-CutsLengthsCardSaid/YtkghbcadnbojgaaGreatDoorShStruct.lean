/- The layer 'Sh': whole structs that are stored. No condition but those that each statement names. -/
import Derived.Test.YtkghbcadnbojgaaGreatDoorShOwn
namespace Go.Sh
open Go Go.RowKit
set_option linter.unusedVariables false
set_option linter.unusedSimpArgs false
theorem Grew.none2 {base : Nat} {w0 w : World} (h : Grew (fun k => base ≤ k) w0 w) (hb : w0.heap.size ≤ base) : w0.grownBy w none := h.toNew fun k hk => Nat.le_trans hb hk
section
variable {P : Program}
/-- a value of several cells, over a part of a block -/
theorem Blk.storeAll {w : World} {b : Nat} {e : TypeId} {cs : List Value} (h : Blk w b e cs) {t : TypeId} {i : TypeInfo} (hi : P.info? t = some i) {o : Nat} {v : Value} {vs : List Value} (hv : v.cells = vs.toArray) (hs : vs.length = i.size) (hfit : o + vs.length ≤ cs.length) (ho : ∀ u ∈ vs, u.oneCell' = true)
    {cs' : List Value} (hcs : cs.take o ++ vs ++ cs.drop (o + vs.length) = cs') : ∃ w', erun P (Instr.storeAt t (.pointer (some ⟨b, o, none⟩)) v) w = some ((), w') ∧ Blk w' b e cs' ∧ w.grownBy w' (some b) := by
  subst hcs
  have key := run_storeCells_at (P := P) b o e vs 0 cs.toArray w h (by simpa using hfit) ho
  refine ⟨_, erun_of_run ?_, setRow_heap w b cs.toArray _ e (0, 0) h, ⟨rfl, rfl, rfl, by simp [World.setRow], fun k _ hk => ?_⟩⟩
  · unfold Instr.storeAt storeVar
    have e1 : (Instr.sureAddr (.pointer (some ⟨b, o, none⟩))).run P w = .ok ⟨b, o, none⟩ w := rfl
    rw [run_ok e1, run_ok (prun_run (prun_sizeOf hi) w), hv]
    simp only [List.size_toArray, hs, ne_eq, not_true_eq_false, if_false]
    have : (do pure PUnit.unit; storeCells ⟨b, o, none⟩ vs : Sem Unit) = storeCells ⟨b, o, none⟩ vs := rfl
    simpa [hs] using key
  · have hne : b ≠ k := fun e => hk (by rw [e])
    simp [World.setRow, Array.getElem?_modify, hne]
end
end Go.Sh
