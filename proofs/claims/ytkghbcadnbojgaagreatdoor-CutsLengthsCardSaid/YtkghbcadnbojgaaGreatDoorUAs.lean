/- errors.As at concrete targets: closed facts on the model's entries for internal/reflectlite at this program's numbers, and the law, after the kit's worked toy 'toyas'. Conditions: those of each statement. -/
import Derived.Test.YtkghbcadnbojgaaGreatDoorProg
import Derived.WalkKit
import Derived.LaidEql
import Derived.Stop.Asserts
import Derived.RowKitTokens
namespace Go.Sh.YtkghbcadnbojgaaGreatDoor
open Go Go.Proofs Go.RowKit Go.Extern.Stop Go.Stop Go.Extern
set_option linter.unusedVariables false
set_option linter.unusedSimpArgs false
set_option maxRecDepth 100000
theorem as_mK (h : Value) (w : World) : (Go.method 364 163 (.agg #[h]) "Kind").run Tryz.prog w = .ok (161, h) w := by kernel_rfl
theorem as_mE (h : Value) (w : World) : (Go.method 364 163 (.agg #[h]) "Elem").run Tryz.prog w = .ok (174, .agg #[h]) w := by kernel_rfl
theorem as_mI (h : Value) (w : World) : (Go.method 364 163 (.agg #[h]) "Implements").run Tryz.prog w = .ok (175, .agg #[h]) w := by kernel_rfl
theorem as_mA (h : Value) (w : World) : (Go.method 364 163 (.agg #[h]) "AssignableTo").run Tryz.prog w = .ok (172, .agg #[h]) w := by kernel_rfl
theorem as_rlm (z : Sem Value) (f : TypeId → Addr → Nat → Nat → Sem Value) (v : Value) :
    ReflectliteValue.method z f #[v] = (do match ← ReflectliteValue.parts v with | none => z | some (t, a, fl) => f t a fl (fl % 32)) := rfl
theorem as_rls (v x : Value) : ReflectliteValue.set #[v, x] = (do
    let (some (dst, a, fl), some (src, b, _)) := (← ReflectliteValue.parts v, ← ReflectliteValue.parts x)
      | unsupported (.noEntry "extern/(internal/reflectlite.Value).Set.zeroValue")
    if fl / ReflectliteValue.flagAddr % 2 == 0 then unsupported (.noEntry "extern/(internal/reflectlite.Value).Set.unaddressable")
    let val ← loadVar src b
    if ← Rtype.directlyAssignable dst src then storeVar dst a val
    else if ← Rtype.implements dst src then
      if (← Rtype.kind src) == 20 then
        match val with
        | .nilIface => unsupported (.noEntry "extern/reflectlite: a nil value of one interface type handed on as a value of another")
        | _ => storeVar dst a val
      else storeVar dst a (.iface src val)
    else panicString ("reflectlite.Set: value of type " ++ (← Rtype.spelt src) ++ " is not assignable to type " ++ (← Rtype.spelt dst))
    pure (.tuple #[])) := rfl
theorem as_voE (t : Addr) (w : World) : (ReflectliteValue.unpack (.iface 102 (.pointer (some t)))).run Tryz.prog w
    = .ok (.agg #[.pointer (some ⟨15, 102, none⟩), .pointer (some ⟨w.heap.size, 0, none⟩), .int .u64 150]) (w.alloc (.cells #[.pointer (some t)] 102)) := by kernel_rfl
theorem as_tyE (a : Addr) (w : World) : (ReflectliteValue.methodAny (ReflectliteValue.valueError "reflectlite.Value.Type" 0) (fun t _ _ _ => ReflectliteType.toType t) #[.agg #[.pointer (some ⟨15, 102, none⟩), .pointer (some a), .int .u64 150]]).run Tryz.prog w
    = .ok (.iface 163 (.agg #[.pointer (some ⟨15, 102, none⟩)])) w := by kernel_rfl
theorem as_kpE (w : World) : ((ReflectliteType.abiMethod fun t => (fun a : Nat => Value.int IntKind.u8 (a : Int)) <$> Rtype.kind t) #[.pointer (some ⟨15, 102, none⟩)]).run Tryz.prog w = .ok (.int .u8 22) w := by kernel_rfl
theorem as_keE (w : World) : ((ReflectliteType.abiMethod fun t => (fun a : Nat => Value.int IntKind.u8 (a : Int)) <$> Rtype.kind t) #[.pointer (some ⟨15, 99, none⟩)]).run Tryz.prog w = .ok (.int .u8 22) w := by kernel_rfl
theorem as_ppE (a : Addr) (w : World) : (ReflectliteValue.parts (.agg #[.pointer (some ⟨15, 102, none⟩), .pointer (some a), .int .u64 150])).run Tryz.prog w = .ok (some (102, a, 150)) w := by kernel_rfl
theorem as_nilE (a p : Addr) (W : World) (ha : W.cell? a = some (.pointer (some p))) :
    (ReflectliteValue.method (ReflectliteValue.valueError "reflectlite.Value.IsNil" 0) ReflectliteValue.isNil #[.agg #[.pointer (some ⟨15, 102, none⟩), .pointer (some a), .int .u64 150]]).run Tryz.prog W = .ok (.bool false) W := by
  rw [as_rlm]
  simp only [Sem.run_bind, as_ppE, Result.andThen]
  simp [ReflectliteValue.isNil, loadVar, isAgg, underlying, Tryz.underlying102, ha, Result.andThen]
theorem as_elE (w : World) : (ReflectliteType.method ReflectliteType.elem #[.agg #[.pointer (some ⟨15, 102, none⟩)]]).run Tryz.prog w = .ok (.iface 163 (.agg #[.pointer (some ⟨15, 99, none⟩)])) w := by kernel_rfl
theorem as_imE (w : World) : (ReflectliteType.relation "Implements" ReflectliteType.implements_ #[.agg #[.pointer (some ⟨15, 99, none⟩)], .iface 163 (.agg #[.pointer (some ⟨15, 32, none⟩)])]).run Tryz.prog w = .ok (.bool true) w := by kernel_rfl
theorem as_toE (v : Value) (w : World) : (ReflectliteType.typeOf #[.iface 99 v]).run Tryz.prog w = .ok (.iface 163 (.agg #[.pointer (some ⟨15, 99, none⟩)])) w := by kernel_rfl
theorem as_atE (w : World) : (ReflectliteType.relation "AssignableTo" ReflectliteType.assignableTo #[.agg #[.pointer (some ⟨15, 99, none⟩)], .iface 163 (.agg #[.pointer (some ⟨15, 99, none⟩)])]).run Tryz.prog w = .ok (.bool true) w := by kernel_rfl
theorem as_veE (e : Addr) (w : World) : (ReflectliteValue.unpack (.iface 99 (.pointer (some e)))).run Tryz.prog w
    = .ok (.agg #[.pointer (some ⟨15, 99, none⟩), .pointer (some ⟨w.heap.size, 0, none⟩), .int .u64 150]) (w.alloc (.cells #[.pointer (some e)] 99)) := by kernel_rfl
theorem as_eoE (w : World) : (Rtype.elem? 102).run Tryz.prog w = .ok (some 99) w := by kernel_rfl
theorem as_mkE (p : Addr) (w : World) : (ReflectliteValue.mk 99 p ReflectliteValue.flagAddr).run Tryz.prog w = .ok (.agg #[.pointer (some ⟨15, 99, none⟩), .pointer (some p), .int .u64 406]) w := by kernel_rfl
theorem as_evE (a p : Addr) (W : World) (ha : W.cell? a = some (.pointer (some p))) :
    (ReflectliteValue.method (ReflectliteValue.valueError "reflectlite.Value.Elem" 0) ReflectliteValue.elem #[.agg #[.pointer (some ⟨15, 102, none⟩), .pointer (some a), .int .u64 150]]).run Tryz.prog W
      = .ok (.agg #[.pointer (some ⟨15, 99, none⟩), .pointer (some p), .int .u64 406]) W := by
  rw [as_rlm]
  simp only [Sem.run_bind, as_ppE, Result.andThen]
  simp [ReflectliteValue.elem, loadVar, isAgg, underlying, Tryz.underlying102, ha, Result.andThen, as_eoE, as_mkE]
theorem as_paE (a : Addr) (w : World) : (ReflectliteValue.parts (.agg #[.pointer (some ⟨15, 99, none⟩), .pointer (some a), .int .u64 406])).run Tryz.prog w = .ok (some (99, a, 406)) w := by kernel_rfl
theorem as_pbE (a : Addr) (w : World) : (ReflectliteValue.parts (.agg #[.pointer (some ⟨15, 99, none⟩), .pointer (some a), .int .u64 150])).run Tryz.prog w = .ok (some (99, a, 150)) w := by kernel_rfl
theorem as_diE (w : World) : (Rtype.directlyAssignable 99 99).run Tryz.prog w = .ok true w := by kernel_rfl
theorem as_seE (ta b e : Addr) (old : Value) (W : World) (hb : W.cell? b = some (.pointer (some e))) (ht : W.cell? ta = some old) (hf : W.frozen? ta = false) :
    (ReflectliteValue.set #[.agg #[.pointer (some ⟨15, 99, none⟩), .pointer (some ta), .int .u64 406], .agg #[.pointer (some ⟨15, 99, none⟩), .pointer (some b), .int .u64 150]]).run Tryz.prog W
      = .ok (.tuple #[]) (W.setCell ta (.pointer (some e))) := by
  have hs : (sizeOf 99).run Tryz.prog W = .ok 1 W := by kernel_rfl
  rw [as_rls]
  simp only [Sem.run_bind, as_paE, as_pbE, Result.andThen]
  simp [ReflectliteValue.flagAddr, loadVar, isAgg, underlying, Tryz.underlying99, hb, Result.andThen, as_diE, storeVar, Value.cells, storeCells, Addr.add, hs]
  rw [run_store Tryz.prog W ta _ _ (by rfl)]
  simp [ht, hf]
set_option maxHeartbeats 4000000 in
theorem as_hitE (e t : Addr) (old : Value) (w : World) (hg : w.cell? ⟨0, 0, none⟩ = some (.iface 163 (.agg #[.pointer (some ⟨15, 32, none⟩)]))) (ht0 : w.cell? t = some old) (hf0 : w.frozen? t = false) :
    Calls Tryz.prog 34 #[.iface 99 (.pointer (some e)), .iface 102 (.pointer (some t))] w fun ev w' => ev = .returned (.bool true) ∧ w' = ((((w.alloc (.cells #[.pointer (some t)] 102)).alloc (.cells #[.pointer (some ⟨15, 102, none⟩), .pointer (some ⟨w.heap.size, 0, none⟩), .int .u64 150] 137)).alloc (.cells #[.pointer (some ⟨15, 102, none⟩), .pointer (some ⟨w.heap.size, 0, none⟩), .int .u64 150] 137)).alloc (.cells #[.pointer (some e)] 99)).setCell t (.pointer (some e)) := by
  have h6 := @run_callFunc_extern Tryz.prog 76 _ (fun args => ReflectliteValue.unpack (args.getD 0 (.tuple #[]))) Tryz.func76 (by kernel_rfl) (by kernel_rfl) (by kernel_rfl) (by kernel_rfl)
  have h7 := @run_callFunc_extern Tryz.prog 77 _ (ReflectliteValue.methodAny (ReflectliteValue.valueError "reflectlite.Value.Type" 0) (fun t _ _ _ => ReflectliteType.toType t)) Tryz.func77 (by kernel_rfl) (by kernel_rfl) (by kernel_rfl) (by kernel_rfl)
  have h8 := @run_callFunc_extern Tryz.prog 78 _ (ReflectliteValue.method (ReflectliteValue.valueError "reflectlite.Value.IsNil" 0) ReflectliteValue.isNil) Tryz.func78 (by kernel_rfl) (by kernel_rfl) (by kernel_rfl) (by kernel_rfl)
  have h27 := @run_callFunc_extern Tryz.prog 161 _ (ReflectliteType.abiMethod fun t => do pure (.int .u8 (← Rtype.kind t))) Tryz.func161 (by kernel_rfl) (by kernel_rfl) (by kernel_rfl) (by kernel_rfl)
  have h37 := @run_callFunc_extern Tryz.prog 174 _ (ReflectliteType.method ReflectliteType.elem) Tryz.func174 (by kernel_rfl) (by kernel_rfl) (by kernel_rfl) (by kernel_rfl)
  have h38 := @run_callFunc_extern Tryz.prog 175 _ (ReflectliteType.relation "Implements" ReflectliteType.implements_) Tryz.func175 (by kernel_rfl) (by kernel_rfl) (by kernel_rfl) (by kernel_rfl)
  have h10 := @run_callFunc_extern Tryz.prog 52 _ ReflectliteType.typeOf Tryz.func52 (by kernel_rfl) (by kernel_rfl) (by kernel_rfl) (by kernel_rfl)
  have h35 := @run_callFunc_extern Tryz.prog 172 _ (ReflectliteType.relation "AssignableTo" ReflectliteType.assignableTo) Tryz.func172 (by kernel_rfl) (by kernel_rfl) (by kernel_rfl) (by kernel_rfl)
  have h11 := @run_callFunc_extern Tryz.prog 104 _ (ReflectliteValue.method (ReflectliteValue.valueError "reflectlite.Value.Elem" 0) ReflectliteValue.elem) Tryz.func104 (by kernel_rfl) (by kernel_rfl) (by kernel_rfl) (by kernel_rfl)
  have h12 := @run_callFunc_extern Tryz.prog 105 _ ReflectliteValue.set Tryz.func105 (by kernel_rfl) (by kernel_rfl) (by kernel_rfl) (by kernel_rfl)
  have tO := as_toE
  have mA := as_mA
  have a25 := as_atE
  have v25 := as_veE
  have f6 := as_voE
  have f7 := as_tyE
  have mK := as_mK
  have mE := as_mE
  have mI := as_mI
  have k27 := as_kpE
  have k25 := as_keE
  have e27 := as_elE
  have i25 := as_imE
  have n8 := as_nilE ⟨w.heap.size, 0, none⟩ t ((w.alloc (.cells #[.pointer (some t)] 102)).alloc (.cells #[.pointer (some ⟨15, 102, none⟩), .pointer (some ⟨w.heap.size, 0, none⟩), .int .u64 150] 137)) (by simp)
  have hlt : 0 < w.heap.size := by
    rcases Nat.eq_zero_or_pos w.heap.size with h0 | h
    · simp [World.cell?, h0] at hg
    · exact h
  have hg2 : ((w.alloc (.cells #[.pointer (some t)] 102)).alloc (.cells #[.pointer (some ⟨15, 102, none⟩), .pointer (some ⟨w.heap.size, 0, none⟩), .int .u64 150] 137)).cell? ⟨0, 0, none⟩ = some (.iface 163 (.agg #[.pointer (some ⟨15, 32, none⟩)])) := by
    rw [World.cell?_alloc_lt _ _ ⟨0, 0, none⟩ (by simp), World.cell?_alloc_lt _ _ ⟨0, 0, none⟩ hlt]; exact hg
  have htl : t.block < w.heap.size := by
    rcases Nat.lt_or_ge t.block w.heap.size with h | h
    · exact h
    · simp [World.cell?, Array.getElem?_eq_none h] at ht0
  have el := as_evE ⟨w.heap.size, 0, none⟩ t (((w.alloc (.cells #[.pointer (some t)] 102)).alloc (.cells #[.pointer (some ⟨15, 102, none⟩), .pointer (some ⟨w.heap.size, 0, none⟩), .int .u64 150] 137)).alloc (.cells #[.pointer (some ⟨15, 102, none⟩), .pointer (some ⟨w.heap.size, 0, none⟩), .int .u64 150] 137)) (by rw [World.cell?_alloc_lt _ _ ⟨w.heap.size, 0, none⟩ (by simp; omega)]; simp)
  have st := as_seE t ⟨w.heap.size + 1 + 1 + 1, 0, none⟩ e old ((((w.alloc (.cells #[.pointer (some t)] 102)).alloc (.cells #[.pointer (some ⟨15, 102, none⟩), .pointer (some ⟨w.heap.size, 0, none⟩), .int .u64 150] 137)).alloc (.cells #[.pointer (some ⟨15, 102, none⟩), .pointer (some ⟨w.heap.size, 0, none⟩), .int .u64 150] 137)).alloc (.cells #[.pointer (some e)] 99))
    (by rw [World.cell?_alloc_at _ _ _ _ (by simp)]; rfl)
    (by rw [World.cell?_alloc_lt _ _ t (by simp; omega), World.cell?_alloc_lt _ _ t (by simp; omega), World.cell?_alloc_lt _ _ t (by simp; omega), World.cell?_alloc_lt _ _ t htl]; exact ht0)
    (by rw [World.frozen?_alloc_old _ _ t (by simp; omega), World.frozen?_alloc_old _ _ t (by simp; omega), World.frozen?_alloc_old _ _ t (by simp; omega), World.frozen?_alloc_old _ _ t (Nat.ne_of_lt htl)]; exact hf0)
  go_enter Tryz.func34, Tryz.ntmps34
  go_wp2
  refine wp_loop_rounds 1 ?_
  rw [rounds_succ]
  go_wp2
  go_ret
  exact ⟨rfl, rfl⟩
end Go.Sh.YtkghbcadnbojgaaGreatDoor
