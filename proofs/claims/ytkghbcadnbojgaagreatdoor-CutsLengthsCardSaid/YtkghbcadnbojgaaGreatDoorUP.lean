/- cuts: errors.As and errors.Is as calls that are told beforehand. Conditions: those of each statement. -/
import Derived.Test.YtkghbcadnbojgaaGreatDoorUAs
import Derived.Test.YtkghbcadnbojgaaGreatDoorUIs
import Derived.Test.YtkghbcadnbojgaaGreatDoorUF
import Derived.Test.YtkghbcadnbojgaaGreatDoorUN
import Derived.Test.YtkghbcadnbojgaaGreatDoorShStr
namespace Go.Sh.YtkghbcadnbojgaaGreatDoor
open Go Go.Proofs Go.RowKit
set_option linter.unusedVariables false
set_option linter.unusedSimpArgs false
set_option maxRecDepth 100000
/-- reflectlite's handle of the type error -/
def hnd : Value := .iface 163 (.agg #[.pointer (some ⟨15, 32, none⟩)])
/-- what errors.As leaves -/
def asW (e t : Addr) (w : World) : World :=
  ((((w.alloc (.cells #[.pointer (some t)] 102)).alloc (.cells #[.pointer (some ⟨15, 102, none⟩), .pointer (some ⟨w.heap.size, 0, none⟩), .int .u64 150] 137)).alloc (.cells #[.pointer (some ⟨15, 102, none⟩), .pointer (some ⟨w.heap.size, 0, none⟩), .int .u64 150] 137)).alloc (.cells #[.pointer (some e)] 99)).setCell t (.pointer (some e))
open Classical in
noncomputable def asCall (args : List Value) (w : World) : Option (Value × World) := match args with
  | [.iface 99 (.pointer (some e)), .iface 102 (.pointer (some t))] => if w.cell? ⟨0, 0, none⟩ = some hnd ∧ (∃ old, w.cell? t = some old) ∧ w.frozen? t = false then some (.bool true, asW e t w) else none
  | _ => none
open Classical in
noncomputable def isCall (args : List Value) (w : World) : Option (Value × World) := match args with
  | [.iface 99 (.pointer (some ⟨b, 0, none⟩)), .iface 35 (.int .i64 z)] => if w.cell? ⟨b, 1, none⟩ = some (.int .i64 z) then some (.bool true, w) else none
  | _ => none
noncomputable def erCall : CallF := fun f args w => bif Nat.beq f 34 then asCall args.toList w else bif Nat.beq f 22 then isCall args.toList w else none
/-- functions whose runs are reckoned by the evaluator -/
def told (f : FuncId) : Bool := Nat.beq f 8 || (Nat.beq f 91 || Nat.beq f 48)
noncomputable def tdCall : CallF := fun f args w => bif told f then run Tryz.prog annA noPrim f args w else erCall f args w
noncomputable def er : Prim := ⟨tdCall, fun _ _ _ => none⟩
theorem asCall_some {args : List Value} {w : World} {r : Value × World} (h : asCall args w = some r) : ∃ e t, args = [.iface 99 (.pointer (some e)), .iface 102 (.pointer (some t))] ∧ w.cell? ⟨0, 0, none⟩ = some hnd ∧ (∃ old, w.cell? t = some old) ∧ w.frozen? t = false ∧ r = (.bool true, asW e t w) := by
  unfold asCall at h
  split at h
  · rename_i e t
    split at h
    · rename_i hc
      exact ⟨e, t, rfl, hc.1, hc.2.1, hc.2.2, (Option.some.inj h).symm⟩
    · cases h
  · cases h
theorem isCall_some {args : List Value} {w : World} {r : Value × World} (h : isCall args w = some r) : ∃ b z, args = [.iface 99 (.pointer (some ⟨b, 0, none⟩)), .iface 35 (.int .i64 z)] ∧ w.cell? ⟨b, 1, none⟩ = some (.int .i64 z) ∧ r = (.bool true, w) := by
  unfold isCall at h
  split at h
  · rename_i b z
    split at h
    · rename_i hc
      exact ⟨b, z, rfl, hc, (Option.some.inj h).symm⟩
    · cases h
  · cases h
theorem erCall_some {f : FuncId} {args : Array Value} {w : World} {r : Value × World} (h : erCall f args w = some r) : (f = 34 ∧ asCall args.toList w = some r) ∨ (f = 22 ∧ isCall args.toList w = some r) := by
  unfold erCall at h
  cases hb : Nat.beq f 34 with
  | true => rw [hb] at h; exact .inl ⟨Nat.eq_of_beq_eq_true hb, h⟩
  | false =>
    rw [hb] at h
    simp only [cond_false] at h
    cases hb2 : Nat.beq f 22 with
    | true => rw [hb2] at h; exact .inr ⟨Nat.eq_of_beq_eq_true hb2, h⟩
    | false => rw [hb2] at h; cases h
theorem enter34 (args : Array Value) (w : World) : (callFunc 34 args).run Tryz.prog w = .ok (.enter 34 args) w := by kernel_rfl
theorem enter22 (args : Array Value) (w : World) : (callFunc 22 args).run Tryz.prog w = .ok (.enter 22 args) w := by kernel_rfl
theorem enter8 (args : Array Value) (w : World) : (callFunc 8 args).run Tryz.prog w = .ok (.enter 8 args) w := by kernel_rfl
theorem enter91 (args : Array Value) (w : World) : (callFunc 91 args).run Tryz.prog w = .ok (.enter 91 args) w := by kernel_rfl
theorem enter48 (args : Array Value) (w : World) : (callFunc 48 args).run Tryz.prog w = .ok (.enter 48 args) w := by kernel_rfl
theorem enterT {f : FuncId} (h : told f = true) (args : Array Value) (w : World) : (callFunc f args).run Tryz.prog w = .ok (.enter f args) w := by
  simp only [told, Bool.or_eq_true] at h
  rcases h with h | h | h
  · obtain rfl := Nat.eq_of_beq_eq_true h
    exact enter8 args w
  · obtain rfl := Nat.eq_of_beq_eq_true h
    exact enter91 args w
  · obtain rfl := Nat.eq_of_beq_eq_true h
    exact enter48 args w
theorem er_ok : PrimOk Tryz.prog er := by
  refine ⟨⟨fun f args w r h => ?_, fun f args w r h => ?_⟩, ⟨fun f args w r h => absurd h (by intro h; cases h), fun f args w r h => absurd h (by intro h; cases h)⟩⟩
  · have h' : tdCall f args w = some r := h
    unfold tdCall at h'
    cases ht : told f with
    | true => exact enterT ht args w
    | false =>
      rw [ht] at h'
      rcases erCall_some h' with ⟨rfl, _⟩ | ⟨rfl, _⟩
      · exact enter34 args w
      · exact enter22 args w
  · have h' : tdCall f args w = some r := h
    unfold tdCall at h'
    cases ht : told f with
    | true =>
      rw [ht] at h'
      exact calls_of_run (by kernel_rfl) noPrim_ok h'
    | false =>
      rw [ht] at h'
      rcases erCall_some h' with ⟨rfl, h1⟩ | ⟨rfl, h1⟩
      · obtain ⟨e, t, ha, h2, ⟨old, h3⟩, h4, rfl⟩ := asCall_some h1
        have : args = #[.iface 99 (.pointer (some e)), .iface 102 (.pointer (some t))] := by apply Array.ext'; simpa using ha
        subst this
        exact as_hitE e t old w h2 h3 h4
      · obtain ⟨b, z, ha, h2, rfl⟩ := isCall_some h1
        have : args = #[.iface 99 (.pointer (some ⟨b, 0, none⟩)), .iface 35 (.int .i64 z)] := by apply Array.ext'; simpa using ha
        subst this
        exact is_same b z w h2
/-- the calls of this seat -/
noncomputable abbrev C := R er
theorem as_ok {w : World} {e t : Addr} {old : Value} (hg : w.cell? ⟨0, 0, none⟩ = some hnd) (ht : w.cell? t = some old) (hf : w.frozen? t = false) : C 34 #[.iface 99 (.pointer (some e)), .iface 102 (.pointer (some t))] w = some (.bool true, asW e t w) := by
  refine run_prim ?_
  have h1 : asCall [.iface 99 (.pointer (some e)), .iface 102 (.pointer (some t))] w = some (.bool true, asW e t w) := by
    unfold asCall
    simp only
    rw [if_pos ⟨hg, ⟨old, ht⟩, hf⟩]
  exact h1
theorem is_ok {w : World} {b : Nat} {z : Int} (h : w.cell? ⟨b, 1, none⟩ = some (.int .i64 z)) : C 22 #[.iface 99 (.pointer (some ⟨b, 0, none⟩)), .iface 35 (.int .i64 z)] w = some (.bool true, w) := by
  refine run_prim ?_
  have h1 : isCall [.iface 99 (.pointer (some ⟨b, 0, none⟩)), .iface 35 (.int .i64 z)] w = some (.bool true, w) := by
    unfold isCall
    simp only
    rw [if_pos h]
  exact h1
theorem told_run {f : FuncId} (h : told f = true) {args : Array Value} {w : World} {r : Value × World} (hr : run Tryz.prog annA noPrim f args w = some r) : C f args w = some r := by
  refine run_prim ?_
  have : tdCall f args w = some r := by
    unfold tdCall
    rw [h]
    exact hr
  exact this
end Go.Sh.YtkghbcadnbojgaaGreatDoor
