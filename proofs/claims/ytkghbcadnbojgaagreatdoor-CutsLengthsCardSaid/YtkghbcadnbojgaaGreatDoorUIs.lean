/- errors.Is at an *EventError and a number: closed facts, the law; after the kit's worked row 'sentry'. Conditions: those of each statement. -/
import Derived.Test.YtkghbcadnbojgaaGreatDoorProg
import Derived.WalkKit
import Derived.LaidEql
import Derived.Stop.Asserts
import Derived.RowKitTokens
namespace Go.Sh.YtkghbcadnbojgaaGreatDoor
open Go Go.Proofs Go.RowKit Go.Extern.Stop Go.Stop Go.Extern
set_option linter.unusedVariables false
set_option linter.unusedSimpArgs false
set_option maxRecDepth 100000
theorem is_tT (v : Value) (w : World) : (Extern.ReflectliteType.typeOf #[.iface 35 v]).run Tryz.prog w = .ok (.iface 163 (.agg #[.pointer (some ⟨15, 35, none⟩)])) w := by kernel_rfl
theorem is_cT (w : World) : ((Extern.ReflectliteType.method fun t => do Extern.Rtype.noPackHeld "Comparable" t; pure (.bool (← typeInfo t).comparable)) #[.agg #[.pointer (some ⟨15, 35, none⟩)]]).run Tryz.prog w = .ok (.bool true) w := by kernel_rfl
theorem is_cT2 (w : World) : ((Extern.ReflectliteType.method fun t => do Extern.Rtype.noPackHeld "Comparable" t; (fun a => Value.bool a.comparable) <$> typeInfo t) #[.agg #[.pointer (some ⟨15, 35, none⟩)]]).run Tryz.prog w = .ok (.bool true) w := by kernel_rfl
theorem is_mR (v : Value) (w : World) : (Go.method 364 163 v "Comparable").run Tryz.prog w = .ok (173, v) w := by kernel_rfl
theorem is_nE (v : Value) (xT : TypeId) (w : World) : (Instr.typeAssert (.iface 99 v) xT 165 true).run Tryz.prog w = .ok (.tuple #[.nilIface, .bool false]) w := run_typeAssert_lacksB Tryz.underlying165 (by kernel_rfl) (by kernel_rfl) v xT w
theorem is_uE (v : Value) (xT : TypeId) (w : World) : (Instr.typeAssert (.iface 99 v) xT 168 true).run Tryz.prog w = .ok (.tuple #[.iface 99 v, .bool true]) w := run_typeAssert_hasB Tryz.underlying168 (by kernel_rfl) v xT w
theorem is_nI (v : Value) (xT : TypeId) (w : World) : (Instr.typeAssert (.iface 35 v) xT 165 true).run Tryz.prog w = .ok (.tuple #[.nilIface, .bool false]) w := run_typeAssert_lacksB Tryz.underlying165 (by kernel_rfl) (by kernel_rfl) v xT w
theorem is_uI (v : Value) (xT : TypeId) (w : World) : (Instr.typeAssert (.iface 35 v) xT 168 true).run Tryz.prog w = .ok (.tuple #[.nilIface, .bool false]) w := run_typeAssert_lacksB Tryz.underlying168 (by kernel_rfl) (by kernel_rfl) v xT w
theorem is_vI (v : Value) (xT : TypeId) (w : World) : (Instr.typeAssert (.iface 35 v) xT 169 true).run Tryz.prog w = .ok (.tuple #[.nilIface, .bool false]) w := run_typeAssert_lacksB Tryz.underlying169 (by kernel_rfl) (by kernel_rfl) v xT w
theorem is_mU (v : Value) (w : World) : (Go.method 364 99 v "Unwrap").run Tryz.prog w = .ok (47, v) w := by kernel_rfl
theorem is_eq (a b : Int) (w : World) : (binOp .eql 32 (.iface 35 (.int .i64 a)) (.iface 35 (.int .i64 b))).run Tryz.prog w = .ok (.bool (a == b)) w := by kernel_rfl
set_option maxHeartbeats 4000000 in
theorem is_same (b : Nat) (z : Int) (w : World) (h1 : w.cell? ⟨b, 1, none⟩ = some (.int .i64 z)) :
    Calls Tryz.prog 22 #[.iface 99 (.pointer (some ⟨b, 0, none⟩)), .iface 35 (.int .i64 z)] w fun e w' => e = .returned (.bool true) ∧ w' = w := by
  have h8 := @run_callFunc_extern Tryz.prog 52 _ Extern.ReflectliteType.typeOf Tryz.func52 (by kernel_rfl) (by kernel_rfl) (by kernel_rfl) (by kernel_rfl)
  have h32 := @run_callFunc_extern Tryz.prog 173 _ (Extern.ReflectliteType.method fun t => do Extern.Rtype.noPackHeld "Comparable" t; pure (.bool (← typeInfo t).comparable)) Tryz.func173 (by kernel_rfl) (by kernel_rfl) (by kernel_rfl) (by kernel_rfl)
  have tT := is_tT
  have cT := is_cT2
  have mR := is_mR
  have nE := is_nE
  have uE := is_uE
  have mU := is_mU
  have heq : (binOp .eql 32 (.iface 35 (.int .i64 z)) (.iface 35 (.int .i64 z))).run Tryz.prog w = .ok (.bool true) w := by rw [is_eq]; simp
  have hty := run_eql_iface_types (P := Tryz.prog) 99 35 (.pointer (some ⟨b, 0, none⟩)) (.int .i64 z) Tryz.underlying32 (by decide) w
  go_enter Tryz.func22, Tryz.ntmps22
  go_wp2
  refine wp_loop_rounds 2 ?_
  rw [rounds_succ]
  go_wp2
  rw [rounds_succ]
  go_wp2
  go_ret
  exact ⟨rfl, rfl⟩
end Go.Sh.YtkghbcadnbojgaaGreatDoor
