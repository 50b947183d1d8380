/- errors.As at concrete targets: closed facts on the model's entries for internal/reflectlite at this program's numbers, and the law, after the kit's worked toy 'toyas'. Conditions: those of each statement. -/
import Derived.Test.YtkghbcadnbojgaaGreatDoorProg
import Derived.WalkKit
import Derived.LaidEql
import Derived.Stop.Asserts
import Derived.RowKitTokens
import Derived.LaidLaws
import Derived.OpenShut
import Derived.Test.YtkghbcadnbojgaaGreatDoorRows
import Derived.KernelRfl
import Derived.Lay
import Derived.LaidHandle
import Derived.Test.YtkghbcadnbojgaaGreatDoorQD3
import Derived.Test.YtkghbcadnbojgaaGreatDoorQD4
namespace Go.Sh.YtkghbcadnbojgaaGreatDoor
open Go Go.Proofs Go.RowKit Go.Extern.Stop Go.Stop Go.Extern
set_option linter.unusedVariables false
set_option linter.unusedSimpArgs false
set_option maxRecDepth 100000
open Go.Proofs.Tryz renaming prog → Zp
open Go.Value renaming int → Vi
open Go.IntKind renaming u8 → Ku
theorem as_mK (h : Value) (w : World) : (Go.method 364 163 (.agg #[h]) "Kind").run Zp w = .ok (161, h) w := by kernel_rfl
theorem as_mE (h : Value) (w : World) : (Go.method 364 163 (.agg #[h]) "Elem").run Zp w = .ok (174, .agg #[h]) w := by kernel_rfl
theorem as_mI (h : Value) (w : World) : (Go.method 364 163 (.agg #[h]) "Implements").run Zp w = .ok (175, .agg #[h]) w := by kernel_rfl
theorem as_mA (h : Value) (w : World) : (Go.method 364 163 (.agg #[h]) "AssignableTo").run Zp w = .ok (172, .agg #[h]) w := by kernel_rfl
theorem as_rlm (z : Sem Value) (f : TypeId → Addr → Nat → Nat → Sem Value) (v : Value) :
  ReflectliteValue.method z f #[v] = (do match ← ReflectliteValue.parts v with | none => z | some (t, a, fl) => f t a fl (fl % 32)) := rfl
theorem as_rls (v x : Value) : ReflectliteValue.set #[v, x] = (do
  let (some (dst, a, fl), some (src, b, _)) := (← ReflectliteValue.parts v, ← ReflectliteValue.parts x)
   | unsupported (.noEntry "extern/(internal/reflectlite.Value).Set.zeroValue")
  if fl / ReflectliteValue.flagAddr % 2 == 0 then unsupported (.noEntry "extern/(internal/reflectlite.Value).Set.unaddressable")
  let val ← loadVar src b
  if ← Rtype.directlyAssignable dst src then storeVar dst a val
  else if ← Rtype.implements dst src then
   if (← Rtype.kind src) == 20 then
    match val with
    | .nilIface => unsupported (.noEntry "extern/reflectlite: a nil value of one interface type handed on as a value of another")
    | _ => storeVar dst a val
   else storeVar dst a (.iface src val)
  else panicString ("reflectlite.Set: value of type " ++ (← Rtype.spelt src) ++ " is not assignable to type " ++ (← Rtype.spelt dst))
  pure (.tuple #[])) := rfl
theorem as_voE (t : Addr) (w : World) : (ReflectliteValue.unpack (.iface 102 (.pointer (some t)))).run Zp w
  = .ok (.agg #[.pointer (some ⟨15, 102, none⟩), .pointer (some ⟨w.heap.size, 0, none⟩), .int .u64 150]) (w.alloc (.cells #[.pointer (some t)] 102)) := by kernel_rfl
theorem as_tyE (a : Addr) (w : World) : (ReflectliteValue.methodAny (ReflectliteValue.valueError "reflectlite.Value.Type" 0) (fun t _ _ _ => ReflectliteType.toType t) #[.agg #[.pointer (some ⟨15, 102, none⟩), .pointer (some a), .int .u64 150]]).run Zp w
  = .ok (.iface 163 (.agg #[.pointer (some ⟨15, 102, none⟩)])) w := by kernel_rfl
theorem as_kpE (w : World) : ((ReflectliteType.abiMethod fun t => (fun a : Nat => Vi Ku (a : Int)) <$> Rtype.kind t) #[.pointer (some ⟨15, 102, none⟩)]).run Zp w = .ok (.int .u8 22) w := by kernel_rfl
theorem as_keE (w : World) : ((ReflectliteType.abiMethod fun t => (fun a : Nat => Vi Ku (a : Int)) <$> Rtype.kind t) #[.pointer (some ⟨15, 99, none⟩)]).run Zp w = .ok (.int .u8 22) w := by kernel_rfl
theorem as_ppE (a : Addr) (w : World) : (ReflectliteValue.parts (.agg #[.pointer (some ⟨15, 102, none⟩), .pointer (some a), .int .u64 150])).run Zp w = .ok (some (102, a, 150)) w := by kernel_rfl
theorem as_nilE (a p : Addr) (W : World) (ha : W.cell? a = some (.pointer (some p))) :
  (ReflectliteValue.method (ReflectliteValue.valueError "reflectlite.Value.IsNil" 0) ReflectliteValue.isNil #[.agg #[.pointer (some ⟨15, 102, none⟩), .pointer (some a), .int .u64 150]]).run Zp W = .ok (.bool false) W := by
 rw [as_rlm]
 simp only [Sem.run_bind, as_ppE, Result.andThen]
 simp [ReflectliteValue.isNil, loadVar, isAgg, underlying, Tryz.underlying102, ha, Result.andThen]
theorem as_elE (w : World) : (ReflectliteType.method ReflectliteType.elem #[.agg #[.pointer (some ⟨15, 102, none⟩)]]).run Zp w = .ok (.iface 163 (.agg #[.pointer (some ⟨15, 99, none⟩)])) w := by kernel_rfl
theorem as_imE (w : World) : (ReflectliteType.relation "Implements" ReflectliteType.implements_ #[.agg #[.pointer (some ⟨15, 99, none⟩)], .iface 163 (.agg #[.pointer (some ⟨15, 32, none⟩)])]).run Zp w = .ok (.bool true) w := by kernel_rfl
theorem as_toE (v : Value) (w : World) : (ReflectliteType.typeOf #[.iface 99 v]).run Zp w = .ok (.iface 163 (.agg #[.pointer (some ⟨15, 99, none⟩)])) w := by kernel_rfl
theorem as_atE (w : World) : (ReflectliteType.relation "AssignableTo" ReflectliteType.assignableTo #[.agg #[.pointer (some ⟨15, 99, none⟩)], .iface 163 (.agg #[.pointer (some ⟨15, 99, none⟩)])]).run Zp w = .ok (.bool true) w := by kernel_rfl
theorem as_veE (e : Addr) (w : World) : (ReflectliteValue.unpack (.iface 99 (.pointer (some e)))).run Zp w
  = .ok (.agg #[.pointer (some ⟨15, 99, none⟩), .pointer (some ⟨w.heap.size, 0, none⟩), .int .u64 150]) (w.alloc (.cells #[.pointer (some e)] 99)) := by kernel_rfl
theorem as_eoE (w : World) : (Rtype.elem? 102).run Zp w = .ok (some 99) w := by kernel_rfl
theorem as_mkE (p : Addr) (w : World) : (ReflectliteValue.mk 99 p ReflectliteValue.flagAddr).run Zp w = .ok (.agg #[.pointer (some ⟨15, 99, none⟩), .pointer (some p), .int .u64 406]) w := by kernel_rfl
theorem as_evE (a p : Addr) (W : World) (ha : W.cell? a = some (.pointer (some p))) :
  (ReflectliteValue.method (ReflectliteValue.valueError "reflectlite.Value.Elem" 0) ReflectliteValue.elem #[.agg #[.pointer (some ⟨15, 102, none⟩), .pointer (some a), .int .u64 150]]).run Zp W
   = .ok (.agg #[.pointer (some ⟨15, 99, none⟩), .pointer (some p), .int .u64 406]) W := by
 rw [as_rlm]
 simp only [Sem.run_bind, as_ppE, Result.andThen]
 simp [ReflectliteValue.elem, loadVar, isAgg, underlying, Tryz.underlying102, ha, Result.andThen, as_eoE, as_mkE]
theorem as_paE (a : Addr) (w : World) : (ReflectliteValue.parts (.agg #[.pointer (some ⟨15, 99, none⟩), .pointer (some a), .int .u64 406])).run Zp w = .ok (some (99, a, 406)) w := by kernel_rfl
theorem as_pbE (a : Addr) (w : World) : (ReflectliteValue.parts (.agg #[.pointer (some ⟨15, 99, none⟩), .pointer (some a), .int .u64 150])).run Zp w = .ok (some (99, a, 150)) w := by kernel_rfl
theorem as_diE (w : World) : (Rtype.directlyAssignable 99 99).run Zp w = .ok true w := by kernel_rfl
theorem as_seE (ta b e : Addr) (old : Value) (W : World) (hb : W.cell? b = some (.pointer (some e))) (ht : W.cell? ta = some old) (hf : W.frozen? ta = false) :
  (ReflectliteValue.set #[.agg #[.pointer (some ⟨15, 99, none⟩), .pointer (some ta), .int .u64 406], .agg #[.pointer (some ⟨15, 99, none⟩), .pointer (some b), .int .u64 150]]).run Zp W
   = .ok (.tuple #[]) (W.setCell ta (.pointer (some e))) := by
 have hs : (sizeOf 99).run Zp W = .ok 1 W := by kernel_rfl
 rw [as_rls]
 simp only [Sem.run_bind, as_paE, as_pbE, Result.andThen]
 simp [ReflectliteValue.flagAddr, loadVar, isAgg, underlying, Tryz.underlying99, hb, Result.andThen, as_diE, storeVar, Value.cells, storeCells, Addr.add, hs]
 rw [run_store Zp W ta _ _ (by rfl)]
 simp [ht, hf]
set_option maxHeartbeats 4000000 in
theorem as_hitE (e t : Addr) (old : Value) (w : World) (hg : w.cell? ⟨0, 0, none⟩ = some (.iface 163 (.agg #[.pointer (some ⟨15, 32, none⟩)]))) (ht0 : w.cell? t = some old) (hf0 : w.frozen? t = false) :
  Calls Zp 34 #[.iface 99 (.pointer (some e)), .iface 102 (.pointer (some t))] w fun ev w' => ev = .returned (.bool true) ∧ w' = ((((w.alloc (.cells #[.pointer (some t)] 102)).alloc (.cells #[.pointer (some ⟨15, 102, none⟩), .pointer (some ⟨w.heap.size, 0, none⟩), .int .u64 150] 137)).alloc (.cells #[.pointer (some ⟨15, 102, none⟩), .pointer (some ⟨w.heap.size, 0, none⟩), .int .u64 150] 137)).alloc (.cells #[.pointer (some e)] 99)).setCell t (.pointer (some e)) := by
 have h6 := @run_callFunc_extern Zp 76 _ (fun args => ReflectliteValue.unpack (args.getD 0 (.tuple #[]))) Tryz.func76 (by kernel_rfl) (by kernel_rfl) (by kernel_rfl) (by kernel_rfl)
 have h7 := @run_callFunc_extern Zp 77 _ (ReflectliteValue.methodAny (ReflectliteValue.valueError "reflectlite.Value.Type" 0) (fun t _ _ _ => ReflectliteType.toType t)) Tryz.func77 (by kernel_rfl) (by kernel_rfl) (by kernel_rfl) (by kernel_rfl)
 have h8 := @run_callFunc_extern Zp 78 _ (ReflectliteValue.method (ReflectliteValue.valueError "reflectlite.Value.IsNil" 0) ReflectliteValue.isNil) Tryz.func78 (by kernel_rfl) (by kernel_rfl) (by kernel_rfl) (by kernel_rfl)
 have h27 := @run_callFunc_extern Zp 161 _ (ReflectliteType.abiMethod fun t => do pure (.int .u8 (← Rtype.kind t))) Tryz.func161 (by kernel_rfl) (by kernel_rfl) (by kernel_rfl) (by kernel_rfl)
 have h37 := @run_callFunc_extern Zp 174 _ (ReflectliteType.method ReflectliteType.elem) Tryz.func174 (by kernel_rfl) (by kernel_rfl) (by kernel_rfl) (by kernel_rfl)
 have h38 := @run_callFunc_extern Zp 175 _ (ReflectliteType.relation "Implements" ReflectliteType.implements_) Tryz.func175 (by kernel_rfl) (by kernel_rfl) (by kernel_rfl) (by kernel_rfl)
 have h10 := @run_callFunc_extern Zp 52 _ ReflectliteType.typeOf Tryz.func52 (by kernel_rfl) (by kernel_rfl) (by kernel_rfl) (by kernel_rfl)
 have h35 := @run_callFunc_extern Zp 172 _ (ReflectliteType.relation "AssignableTo" ReflectliteType.assignableTo) Tryz.func172 (by kernel_rfl) (by kernel_rfl) (by kernel_rfl) (by kernel_rfl)
 have h11 := @run_callFunc_extern Zp 104 _ (ReflectliteValue.method (ReflectliteValue.valueError "reflectlite.Value.Elem" 0) ReflectliteValue.elem) Tryz.func104 (by kernel_rfl) (by kernel_rfl) (by kernel_rfl) (by kernel_rfl)
 have h12 := @run_callFunc_extern Zp 105 _ ReflectliteValue.set Tryz.func105 (by kernel_rfl) (by kernel_rfl) (by kernel_rfl) (by kernel_rfl)
 have tO := as_toE
 have mA := as_mA
 have a25 := as_atE
 have v25 := as_veE
 have f6 := as_voE
 have f7 := as_tyE
 have mK := as_mK
 have mE := as_mE
 have mI := as_mI
 have k27 := as_kpE
 have k25 := as_keE
 have e27 := as_elE
 have i25 := as_imE
 have n8 := as_nilE ⟨w.heap.size, 0, none⟩ t ((w.alloc (.cells #[.pointer (some t)] 102)).alloc (.cells #[.pointer (some ⟨15, 102, none⟩), .pointer (some ⟨w.heap.size, 0, none⟩), .int .u64 150] 137)) (by simp)
 have hlt : 0 < w.heap.size := by
  rcases Nat.eq_zero_or_pos w.heap.size with h0 | h
  ·simp [World.cell?, h0] at hg
  ·exact h
 have hg2 : ((w.alloc (.cells #[.pointer (some t)] 102)).alloc (.cells #[.pointer (some ⟨15, 102, none⟩), .pointer (some ⟨w.heap.size, 0, none⟩), .int .u64 150] 137)).cell? ⟨0, 0, none⟩ = some (.iface 163 (.agg #[.pointer (some ⟨15, 32, none⟩)])) := by
  rw [World.cell?_alloc_lt _ _ ⟨0, 0, none⟩ (by simp), World.cell?_alloc_lt _ _ ⟨0, 0, none⟩ hlt]; exact hg
 have htl : t.block < w.heap.size := by
  rcases Nat.lt_or_ge t.block w.heap.size with h | h
  ·exact h
  ·simp [World.cell?, Array.getElem?_eq_none h] at ht0
 have el := as_evE ⟨w.heap.size, 0, none⟩ t (((w.alloc (.cells #[.pointer (some t)] 102)).alloc (.cells #[.pointer (some ⟨15, 102, none⟩), .pointer (some ⟨w.heap.size, 0, none⟩), .int .u64 150] 137)).alloc (.cells #[.pointer (some ⟨15, 102, none⟩), .pointer (some ⟨w.heap.size, 0, none⟩), .int .u64 150] 137)) (by rw [World.cell?_alloc_lt _ _ ⟨w.heap.size, 0, none⟩ (by simp; omega)]; simp)
 have st := as_seE t ⟨w.heap.size + 1 + 1 + 1, 0, none⟩ e old ((((w.alloc (.cells #[.pointer (some t)] 102)).alloc (.cells #[.pointer (some ⟨15, 102, none⟩), .pointer (some ⟨w.heap.size, 0, none⟩), .int .u64 150] 137)).alloc (.cells #[.pointer (some ⟨15, 102, none⟩), .pointer (some ⟨w.heap.size, 0, none⟩), .int .u64 150] 137)).alloc (.cells #[.pointer (some e)] 99))
  (by rw [World.cell?_alloc_at _ _ _ _ (by simp)]; rfl)
  (by rw [World.cell?_alloc_lt _ _ t (by simp; omega), World.cell?_alloc_lt _ _ t (by simp; omega), World.cell?_alloc_lt _ _ t (by simp; omega), World.cell?_alloc_lt _ _ t htl]; exact ht0)
  (by rw [World.frozen?_alloc_old _ _ t (by simp; omega), World.frozen?_alloc_old _ _ t (by simp; omega), World.frozen?_alloc_old _ _ t (by simp; omega), World.frozen?_alloc_old _ _ t (Nat.ne_of_lt htl)]; exact hf0)
 go_enter Tryz.func34, Tryz.ntmps34
 go_wp2
 refine wp_loop_rounds 1 ?_
 rw [rounds_succ]
 go_wp2
 go_ret
 exact ⟨rfl, rfl⟩
theorem is_tT (v : Value) (w : World) : (Extern.ReflectliteType.typeOf #[.iface 35 v]).run Zp w = .ok (.iface 163 (.agg #[.pointer (some ⟨15, 35, none⟩)])) w := by kernel_rfl
theorem is_cT2 (w : World) : ((Extern.ReflectliteType.method fun t => do Extern.Rtype.noPackHeld "Comparable" t; (fun a => Value.bool a.comparable) <$> typeInfo t) #[.agg #[.pointer (some ⟨15, 35, none⟩)]]).run Zp w = .ok (.bool true) w := by kernel_rfl
theorem is_mR (v : Value) (w : World) : (Go.method 364 163 v "Comparable").run Zp w = .ok (173, v) w := by kernel_rfl
theorem is_nE (v : Value) (xT : TypeId) (w : World) : (Instr.typeAssert (.iface 99 v) xT 165 true).run Zp w = .ok (.tuple #[.nilIface, .bool false]) w := run_typeAssert_lacksB Tryz.underlying165 (by kernel_rfl) (by kernel_rfl) v xT w
theorem is_uE (v : Value) (xT : TypeId) (w : World) : (Instr.typeAssert (.iface 99 v) xT 168 true).run Zp w = .ok (.tuple #[.iface 99 v, .bool true]) w := run_typeAssert_hasB Tryz.underlying168 (by kernel_rfl) v xT w
theorem is_nI (v : Value) (xT : TypeId) (w : World) : (Instr.typeAssert (.iface 35 v) xT 165 true).run Zp w = .ok (.tuple #[.nilIface, .bool false]) w := run_typeAssert_lacksB Tryz.underlying165 (by kernel_rfl) (by kernel_rfl) v xT w
theorem is_uI (v : Value) (xT : TypeId) (w : World) : (Instr.typeAssert (.iface 35 v) xT 168 true).run Zp w = .ok (.tuple #[.nilIface, .bool false]) w := run_typeAssert_lacksB Tryz.underlying168 (by kernel_rfl) (by kernel_rfl) v xT w
theorem is_vI (v : Value) (xT : TypeId) (w : World) : (Instr.typeAssert (.iface 35 v) xT 169 true).run Zp w = .ok (.tuple #[.nilIface, .bool false]) w := run_typeAssert_lacksB Tryz.underlying169 (by kernel_rfl) (by kernel_rfl) v xT w
theorem is_mU (v : Value) (w : World) : (Go.method 364 99 v "Unwrap").run Zp w = .ok (47, v) w := by kernel_rfl
theorem is_eq (a b : Int) (w : World) : (binOp .eql 32 (.iface 35 (.int .i64 a)) (.iface 35 (.int .i64 b))).run Zp w = .ok (.bool (a == b)) w := by kernel_rfl
set_option maxHeartbeats 4000000 in
theorem is_same (b : Nat) (z : Int) (w : World) (h1 : w.cell? ⟨b, 1, none⟩ = some (.int .i64 z)) :
  Calls Zp 22 #[.iface 99 (.pointer (some ⟨b, 0, none⟩)), .iface 35 (.int .i64 z)] w fun e w' => e = .returned (.bool true) ∧ w' = w := by
 have h8 := @run_callFunc_extern Zp 52 _ Extern.ReflectliteType.typeOf Tryz.func52 (by kernel_rfl) (by kernel_rfl) (by kernel_rfl) (by kernel_rfl)
 have h32 := @run_callFunc_extern Zp 173 _ (Extern.ReflectliteType.method fun t => do Extern.Rtype.noPackHeld "Comparable" t; pure (.bool (← typeInfo t).comparable)) Tryz.func173 (by kernel_rfl) (by kernel_rfl) (by kernel_rfl) (by kernel_rfl)
 have tT := is_tT
 have cT := is_cT2
 have mR := is_mR
 have nE := is_nE
 have uE := is_uE
 have mU := is_mU
 have heq : (binOp .eql 32 (.iface 35 (.int .i64 z)) (.iface 35 (.int .i64 z))).run Zp w = .ok (.bool true) w := by rw [is_eq]; simp
 have hty := run_eql_iface_types (P := Zp) 99 35 (.pointer (some ⟨b, 0, none⟩)) (.int .i64 z) Tryz.underlying32 (by decide) w
 go_enter Tryz.func22, Tryz.ntmps22
 go_wp2
 refine wp_loop_rounds 2 ?_
 rw [rounds_succ]
 go_wp2
 rw [rounds_succ]
 go_wp2
 go_ret
 exact ⟨rfl, rfl⟩
theorem as_voF (t : Addr) (w : World) : (ReflectliteValue.unpack (.iface 85 (.pointer (some t)))).run Zp w
  = .ok (.agg #[.pointer (some ⟨15, 85, none⟩), .pointer (some ⟨w.heap.size, 0, none⟩), .int .u64 150]) (w.alloc (.cells #[.pointer (some t)] 85)) := by kernel_rfl
theorem as_tyF (a : Addr) (w : World) : (ReflectliteValue.methodAny (ReflectliteValue.valueError "reflectlite.Value.Type" 0) (fun t _ _ _ => ReflectliteType.toType t) #[.agg #[.pointer (some ⟨15, 85, none⟩), .pointer (some a), .int .u64 150]]).run Zp w
  = .ok (.iface 163 (.agg #[.pointer (some ⟨15, 85, none⟩)])) w := by kernel_rfl
theorem as_kpF (w : World) : ((ReflectliteType.abiMethod fun t => (fun a : Nat => Vi Ku (a : Int)) <$> Rtype.kind t) #[.pointer (some ⟨15, 85, none⟩)]).run Zp w = .ok (.int .u8 22) w := by kernel_rfl
theorem as_keF (w : World) : ((ReflectliteType.abiMethod fun t => (fun a : Nat => Vi Ku (a : Int)) <$> Rtype.kind t) #[.pointer (some ⟨15, 82, none⟩)]).run Zp w = .ok (.int .u8 22) w := by kernel_rfl
theorem as_ppF (a : Addr) (w : World) : (ReflectliteValue.parts (.agg #[.pointer (some ⟨15, 85, none⟩), .pointer (some a), .int .u64 150])).run Zp w = .ok (some (85, a, 150)) w := by kernel_rfl
theorem as_nilF (a p : Addr) (W : World) (ha : W.cell? a = some (.pointer (some p))) :
  (ReflectliteValue.method (ReflectliteValue.valueError "reflectlite.Value.IsNil" 0) ReflectliteValue.isNil #[.agg #[.pointer (some ⟨15, 85, none⟩), .pointer (some a), .int .u64 150]]).run Zp W = .ok (.bool false) W := by
 rw [as_rlm]
 simp only [Sem.run_bind, as_ppF, Result.andThen]
 simp [ReflectliteValue.isNil, loadVar, isAgg, underlying, Tryz.underlying85, ha, Result.andThen]
theorem as_elF (w : World) : (ReflectliteType.method ReflectliteType.elem #[.agg #[.pointer (some ⟨15, 85, none⟩)]]).run Zp w = .ok (.iface 163 (.agg #[.pointer (some ⟨15, 82, none⟩)])) w := by kernel_rfl
theorem as_imF (w : World) : (ReflectliteType.relation "Implements" ReflectliteType.implements_ #[.agg #[.pointer (some ⟨15, 82, none⟩)], .iface 163 (.agg #[.pointer (some ⟨15, 32, none⟩)])]).run Zp w = .ok (.bool true) w := by kernel_rfl
theorem as_toF (v : Value) (w : World) : (ReflectliteType.typeOf #[.iface 82 v]).run Zp w = .ok (.iface 163 (.agg #[.pointer (some ⟨15, 82, none⟩)])) w := by kernel_rfl
theorem as_atF (w : World) : (ReflectliteType.relation "AssignableTo" ReflectliteType.assignableTo #[.agg #[.pointer (some ⟨15, 82, none⟩)], .iface 163 (.agg #[.pointer (some ⟨15, 82, none⟩)])]).run Zp w = .ok (.bool true) w := by kernel_rfl
theorem as_veF (e : Addr) (w : World) : (ReflectliteValue.unpack (.iface 82 (.pointer (some e)))).run Zp w
  = .ok (.agg #[.pointer (some ⟨15, 82, none⟩), .pointer (some ⟨w.heap.size, 0, none⟩), .int .u64 150]) (w.alloc (.cells #[.pointer (some e)] 82)) := by kernel_rfl
theorem as_eoF (w : World) : (Rtype.elem? 85).run Zp w = .ok (some 82) w := by kernel_rfl
theorem as_mkF (p : Addr) (w : World) : (ReflectliteValue.mk 82 p ReflectliteValue.flagAddr).run Zp w = .ok (.agg #[.pointer (some ⟨15, 82, none⟩), .pointer (some p), .int .u64 406]) w := by kernel_rfl
theorem as_evF (a p : Addr) (W : World) (ha : W.cell? a = some (.pointer (some p))) :
  (ReflectliteValue.method (ReflectliteValue.valueError "reflectlite.Value.Elem" 0) ReflectliteValue.elem #[.agg #[.pointer (some ⟨15, 85, none⟩), .pointer (some a), .int .u64 150]]).run Zp W
   = .ok (.agg #[.pointer (some ⟨15, 82, none⟩), .pointer (some p), .int .u64 406]) W := by
 rw [as_rlm]
 simp only [Sem.run_bind, as_ppF, Result.andThen]
 simp [ReflectliteValue.elem, loadVar, isAgg, underlying, Tryz.underlying85, ha, Result.andThen, as_eoF, as_mkF]
theorem as_paF (a : Addr) (w : World) : (ReflectliteValue.parts (.agg #[.pointer (some ⟨15, 82, none⟩), .pointer (some a), .int .u64 406])).run Zp w = .ok (some (82, a, 406)) w := by kernel_rfl
theorem as_pbF (a : Addr) (w : World) : (ReflectliteValue.parts (.agg #[.pointer (some ⟨15, 82, none⟩), .pointer (some a), .int .u64 150])).run Zp w = .ok (some (82, a, 150)) w := by kernel_rfl
theorem as_diF (w : World) : (Rtype.directlyAssignable 82 82).run Zp w = .ok true w := by kernel_rfl
theorem as_seF (ta b e : Addr) (old : Value) (W : World) (hb : W.cell? b = some (.pointer (some e))) (ht : W.cell? ta = some old) (hf : W.frozen? ta = false) :
  (ReflectliteValue.set #[.agg #[.pointer (some ⟨15, 82, none⟩), .pointer (some ta), .int .u64 406], .agg #[.pointer (some ⟨15, 82, none⟩), .pointer (some b), .int .u64 150]]).run Zp W
   = .ok (.tuple #[]) (W.setCell ta (.pointer (some e))) := by
 have hs : (sizeOf 82).run Zp W = .ok 1 W := by kernel_rfl
 rw [as_rls]
 simp only [Sem.run_bind, as_paF, as_pbF, Result.andThen]
 simp [ReflectliteValue.flagAddr, loadVar, isAgg, underlying, Tryz.underlying82, hb, Result.andThen, as_diF, storeVar, Value.cells, storeCells, Addr.add, hs]
 rw [run_store Zp W ta _ _ (by rfl)]
 simp [ht, hf]
set_option maxHeartbeats 4000000 in
theorem as_hitF (e t : Addr) (old : Value) (w : World) (hg : w.cell? ⟨0, 0, none⟩ = some (.iface 163 (.agg #[.pointer (some ⟨15, 32, none⟩)]))) (ht0 : w.cell? t = some old) (hf0 : w.frozen? t = false) :
  Calls Zp 34 #[.iface 82 (.pointer (some e)), .iface 85 (.pointer (some t))] w fun ev w' => ev = .returned (.bool true) ∧ w' = ((((w.alloc (.cells #[.pointer (some t)] 85)).alloc (.cells #[.pointer (some ⟨15, 85, none⟩), .pointer (some ⟨w.heap.size, 0, none⟩), .int .u64 150] 137)).alloc (.cells #[.pointer (some ⟨15, 85, none⟩), .pointer (some ⟨w.heap.size, 0, none⟩), .int .u64 150] 137)).alloc (.cells #[.pointer (some e)] 82)).setCell t (.pointer (some e)) := by
 have h6 := @run_callFunc_extern Zp 76 _ (fun args => ReflectliteValue.unpack (args.getD 0 (.tuple #[]))) Tryz.func76 (by kernel_rfl) (by kernel_rfl) (by kernel_rfl) (by kernel_rfl)
 have h7 := @run_callFunc_extern Zp 77 _ (ReflectliteValue.methodAny (ReflectliteValue.valueError "reflectlite.Value.Type" 0) (fun t _ _ _ => ReflectliteType.toType t)) Tryz.func77 (by kernel_rfl) (by kernel_rfl) (by kernel_rfl) (by kernel_rfl)
 have h8 := @run_callFunc_extern Zp 78 _ (ReflectliteValue.method (ReflectliteValue.valueError "reflectlite.Value.IsNil" 0) ReflectliteValue.isNil) Tryz.func78 (by kernel_rfl) (by kernel_rfl) (by kernel_rfl) (by kernel_rfl)
 have h27 := @run_callFunc_extern Zp 161 _ (ReflectliteType.abiMethod fun t => do pure (.int .u8 (← Rtype.kind t))) Tryz.func161 (by kernel_rfl) (by kernel_rfl) (by kernel_rfl) (by kernel_rfl)
 have h37 := @run_callFunc_extern Zp 174 _ (ReflectliteType.method ReflectliteType.elem) Tryz.func174 (by kernel_rfl) (by kernel_rfl) (by kernel_rfl) (by kernel_rfl)
 have h38 := @run_callFunc_extern Zp 175 _ (ReflectliteType.relation "Implements" ReflectliteType.implements_) Tryz.func175 (by kernel_rfl) (by kernel_rfl) (by kernel_rfl) (by kernel_rfl)
 have h10 := @run_callFunc_extern Zp 52 _ ReflectliteType.typeOf Tryz.func52 (by kernel_rfl) (by kernel_rfl) (by kernel_rfl) (by kernel_rfl)
 have h35 := @run_callFunc_extern Zp 172 _ (ReflectliteType.relation "AssignableTo" ReflectliteType.assignableTo) Tryz.func172 (by kernel_rfl) (by kernel_rfl) (by kernel_rfl) (by kernel_rfl)
 have h11 := @run_callFunc_extern Zp 104 _ (ReflectliteValue.method (ReflectliteValue.valueError "reflectlite.Value.Elem" 0) ReflectliteValue.elem) Tryz.func104 (by kernel_rfl) (by kernel_rfl) (by kernel_rfl) (by kernel_rfl)
 have h12 := @run_callFunc_extern Zp 105 _ ReflectliteValue.set Tryz.func105 (by kernel_rfl) (by kernel_rfl) (by kernel_rfl) (by kernel_rfl)
 have tO := as_toF
 have mA := as_mA
 have a25 := as_atF
 have v25 := as_veF
 have f6 := as_voF
 have f7 := as_tyF
 have mK := as_mK
 have mE := as_mE
 have mI := as_mI
 have k27 := as_kpF
 have k25 := as_keF
 have e27 := as_elF
 have i25 := as_imF
 have n8 := as_nilF ⟨w.heap.size, 0, none⟩ t ((w.alloc (.cells #[.pointer (some t)] 85)).alloc (.cells #[.pointer (some ⟨15, 85, none⟩), .pointer (some ⟨w.heap.size, 0, none⟩), .int .u64 150] 137)) (by simp)
 have hlt : 0 < w.heap.size := by
  rcases Nat.eq_zero_or_pos w.heap.size with h0 | h
  ·simp [World.cell?, h0] at hg
  ·exact h
 have hg2 : ((w.alloc (.cells #[.pointer (some t)] 85)).alloc (.cells #[.pointer (some ⟨15, 85, none⟩), .pointer (some ⟨w.heap.size, 0, none⟩), .int .u64 150] 137)).cell? ⟨0, 0, none⟩ = some (.iface 163 (.agg #[.pointer (some ⟨15, 32, none⟩)])) := by
  rw [World.cell?_alloc_lt _ _ ⟨0, 0, none⟩ (by simp), World.cell?_alloc_lt _ _ ⟨0, 0, none⟩ hlt]; exact hg
 have htl : t.block < w.heap.size := by
  rcases Nat.lt_or_ge t.block w.heap.size with h | h
  ·exact h
  ·simp [World.cell?, Array.getElem?_eq_none h] at ht0
 have el := as_evF ⟨w.heap.size, 0, none⟩ t (((w.alloc (.cells #[.pointer (some t)] 85)).alloc (.cells #[.pointer (some ⟨15, 85, none⟩), .pointer (some ⟨w.heap.size, 0, none⟩), .int .u64 150] 137)).alloc (.cells #[.pointer (some ⟨15, 85, none⟩), .pointer (some ⟨w.heap.size, 0, none⟩), .int .u64 150] 137)) (by rw [World.cell?_alloc_lt _ _ ⟨w.heap.size, 0, none⟩ (by simp; omega)]; simp)
 have st := as_seF t ⟨w.heap.size + 1 + 1 + 1, 0, none⟩ e old ((((w.alloc (.cells #[.pointer (some t)] 85)).alloc (.cells #[.pointer (some ⟨15, 85, none⟩), .pointer (some ⟨w.heap.size, 0, none⟩), .int .u64 150] 137)).alloc (.cells #[.pointer (some ⟨15, 85, none⟩), .pointer (some ⟨w.heap.size, 0, none⟩), .int .u64 150] 137)).alloc (.cells #[.pointer (some e)] 82))
  (by rw [World.cell?_alloc_at _ _ _ _ (by simp)]; rfl)
  (by rw [World.cell?_alloc_lt _ _ t (by simp; omega), World.cell?_alloc_lt _ _ t (by simp; omega), World.cell?_alloc_lt _ _ t (by simp; omega), World.cell?_alloc_lt _ _ t htl]; exact ht0)
  (by rw [World.frozen?_alloc_old _ _ t (by simp; omega), World.frozen?_alloc_old _ _ t (by simp; omega), World.frozen?_alloc_old _ _ t (by simp; omega), World.frozen?_alloc_old _ _ t (Nat.ne_of_lt htl)]; exact hf0)
 go_enter Tryz.func34, Tryz.ntmps34
 go_wp2
 refine wp_loop_rounds 1 ?_
 rw [rounds_succ]
 go_wp2
 go_ret
 exact ⟨rfl, rfl⟩
set_option maxHeartbeats 4000000 in
theorem is_other (b : Nat) (y z : Int) (hyz : (y == z) = false) (w : World) (h1 : w.cell? ⟨b, 1, none⟩ = some (.int .i64 y)) :
  Calls Zp 22 #[.iface 99 (.pointer (some ⟨b, 0, none⟩)), .iface 35 (.int .i64 z)] w fun e w' => e = .returned (.bool false) ∧ w' = w := by
 have h8 := @run_callFunc_extern Zp 52 _ Extern.ReflectliteType.typeOf Tryz.func52 (by kernel_rfl) (by kernel_rfl) (by kernel_rfl) (by kernel_rfl)
 have h32 := @run_callFunc_extern Zp 173 _ (Extern.ReflectliteType.method fun t => do Extern.Rtype.noPackHeld "Comparable" t; pure (.bool (← typeInfo t).comparable)) Tryz.func173 (by kernel_rfl) (by kernel_rfl) (by kernel_rfl) (by kernel_rfl)
 have tT := is_tT
 have cT := is_cT2
 have mR := is_mR
 have nE := is_nE
 have uE := is_uE
 have mU := is_mU
 have nI := is_nI
 have uI := is_uI
 have vI := is_vI
 have heq : (binOp .eql 32 (.iface 35 (.int .i64 y)) (.iface 35 (.int .i64 z))).run Zp w = .ok (.bool false) w := by rw [is_eq, hyz]
 have hty := run_eql_iface_types (P := Zp) 99 35 (.pointer (some ⟨b, 0, none⟩)) (.int .i64 z) Tryz.underlying32 (by decide) w
 go_enter Tryz.func22, Tryz.ntmps22
 go_wp2
 refine wp_loop_rounds 2 ?_
 rw [rounds_succ]
 go_wp2
 rw [rounds_succ]
 go_wp2
 go_ret
 exact ⟨rfl, rfl⟩
theorem is_nF (v : Value) (xT : TypeId) (w : World) : (Instr.typeAssert (.iface 82 v) xT 165 true).run Zp w = .ok (.tuple #[.nilIface, .bool false]) w := run_typeAssert_lacksB Tryz.underlying165 (by kernel_rfl) (by kernel_rfl) v xT w
theorem is_uF (v : Value) (xT : TypeId) (w : World) : (Instr.typeAssert (.iface 82 v) xT 168 true).run Zp w = .ok (.tuple #[.iface 82 v, .bool true]) w := run_typeAssert_hasB Tryz.underlying168 (by kernel_rfl) v xT w
theorem is_mF (v : Value) (w : World) : (Go.method 364 82 v "Unwrap").run Zp w = .ok (166, v) w := by kernel_rfl
set_option maxHeartbeats 4000000 in
theorem is_fault (b : Nat) (z : Int) (w : World) (h1 : w.cell? ⟨b, 1, none⟩ = some (.int .i64 z)) :
  Calls Zp 22 #[.iface 82 (.pointer (some ⟨b, 0, none⟩)), .iface 35 (.int .i64 z)] w fun e w' => e = .returned (.bool true) ∧ w' = w := by
 have h8 := @run_callFunc_extern Zp 52 _ Extern.ReflectliteType.typeOf Tryz.func52 (by kernel_rfl) (by kernel_rfl) (by kernel_rfl) (by kernel_rfl)
 have h32 := @run_callFunc_extern Zp 173 _ (Extern.ReflectliteType.method fun t => do Extern.Rtype.noPackHeld "Comparable" t; pure (.bool (← typeInfo t).comparable)) Tryz.func173 (by kernel_rfl) (by kernel_rfl) (by kernel_rfl) (by kernel_rfl)
 have tT := is_tT
 have cT := is_cT2
 have mR := is_mR
 have nE := is_nF
 have uE := is_uF
 have mU := is_mF
 have heq : (binOp .eql 32 (.iface 35 (.int .i64 z)) (.iface 35 (.int .i64 z))).run Zp w = .ok (.bool true) w := by rw [is_eq]; simp
 have hty := run_eql_iface_types (P := Zp) 82 35 (.pointer (some ⟨b, 0, none⟩)) (.int .i64 z) Tryz.underlying32 (by decide) w
 go_enter Tryz.func22, Tryz.ntmps22
 go_wp2
 refine wp_loop_rounds 2 ?_
 rw [rounds_succ]
 go_wp2
 rw [rounds_succ]
 go_wp2
 go_ret
 exact ⟨rfl, rfl⟩
end Go.Sh.YtkghbcadnbojgaaGreatDoor
namespace Go.Sh.Ev
open Go Go.RowKit
set_option linter.unusedVariables false
set_option linter.unusedSimpArgs false
open Option renaming bind_eq_some_iff → Ob
open Option.some renaming injEq → Oj
open List renaming getElem?_eq_getElem → Yg, drop_drop → Yd
mutual
def flatD : DataW Unit → Option (List Value)
 | .lit (.int k n) => some [.int k n]
 | .lit (.bool b) => some [.bool b]
 | .lit (.string bs) => some [.string ⟨bs.toArray⟩]
 | .agg l => flatL l
 | _ => none
def flatL : List (DataW Unit) → Option (List Value)
 | [] => some []
 | d :: r => (flatD d).bind fun x => (flatL r).bind fun y => some (x ++ y)
end
section
variable (P : Program)
def fieldsEnd (ok : TypeId → Bool) : List Field → Nat → Option Nat
 | [], o => some o
 | f :: r, o => bif Nat.beq f.offset o && ok f.type then fieldsEnd ok r (o + P.cellsOf f.type) else none
def contig : Nat → TypeId → Bool
 | 0, _ => false
 | n + 1, t => match P.underlying t with
  | some (.int _) | some .bool | some .string => true
  | some (.array k e) => contig n e && Nat.beq (P.cellsOf t) (k * P.cellsOf e)
  | some (.struct fs) => fieldsEnd P (contig n) fs.toList 0 == some (P.cellsOf t)
  | _ => false
variable {P}
theorem chunks_flat {c : Nat} : ∀ (xs : List (List Value)) (cs : List Value), cs.length = xs.length * c → (∀ i, i < xs.length → some ((cs.drop (i * c)).take c) = xs[i]?) → cs = xs.flatten
 | [], cs, h, _ => by simp at h; subst h; rfl
 | x :: r, cs, h, hx => by
  have h0 := hx 0 (by simp)
  simp at h0
  simp only [List.length_cons, Nat.add_mul, Nat.one_mul] at h
  have := chunks_flat (c := c) r (cs.drop c) (by simp; omega) fun i hi => by
   have := hx (i + 1) (by simp; omega)
   simp only [List.getElem?_cons_succ] at this
   rw [Yd, show c + i * c = (i + 1) * c by rw [Nat.add_mul]; omega]
   exact this
  rw [List.flatten_cons, ← this, ← h0, List.take_append_drop]
theorem flatL_some : ∀ {l : List (DataW Unit)} {vs : List Value}, flatL l = some vs → ∃ xs : List (List Value), xs.length = l.length ∧ vs = xs.flatten ∧ ∀ (i : Nat) (d : DataW Unit), l[i]? = some d → ∃ x, xs[i]? = some x ∧ flatD d = some x
 | [], vs, h => by simp only [flatL, Oj] at h; subst h; exact ⟨[], rfl, rfl, fun i d h => by simp at h⟩
 | d :: r, vs, h => by
  simp only [flatL, Ob, Oj] at h
  obtain ⟨x, h1, y, h2, rfl⟩ := h
  obtain ⟨xs, h3, rfl, h4⟩ := flatL_some h2
  refine ⟨x :: xs, by simp [h3], rfl, fun i d' hi => ?_⟩
  cases i with
  | zero => simp at hi; subst hi; exact ⟨x, rfl, h1⟩
  | succ i => simp at hi; simpa using h4 i d' hi
theorem fields_flat {W : World} {enc : TypeId × Value → Unit} {base : Nat} {spare : Nat → Bool} {held : Bool} {ok : TypeId → Bool} {m : Nat} {cs : List Value} (hok : ∀ t cs d ps vs, DataW.trod enc P W base spare held m t cs = some (d, ps) → ok t = true → flatD d = some vs → cs = vs) :
  ∀ (fs : List Field) (o e : Nat) (xs : List (DataW Unit × List MemPlace)) (vs : List Value), fieldsEnd P ok fs o = some e → xs.length = fs.length →
   (∀ (i : Nat) (f : Field), fs[i]? = some f → DataW.trod enc P W base spare held m f.type ((cs.drop f.offset).take (P.cellsOf f.type)) = xs[i]?) → flatL (xs.map (·.1)) = some vs → o ≤ e ∧ (cs.drop o).take (e - o) = vs
 | [], o, e, xs, vs, h, hl, hx, hv => by
  simp only [fieldsEnd, Oj] at h
  subst h
  have : xs = [] := by simpa using hl
  subst this
  simp only [List.map_nil, flatL, Oj] at hv
  subst hv
  simp
 | f :: r, o, e, xs, vs, h, hl, hx, hv => by
  simp only [fieldsEnd] at h
  cases hb : (Nat.beq f.offset o && ok f.type) with
  | false => rw [hb] at h; cases h
  | true =>
   rw [hb] at h
   simp only [cond_true] at h
   simp only [Bool.and_eq_true, Nat.beq_eq] at hb
   obtain ⟨ho, hf⟩ := hb
   cases xs with
   | nil => simp at hl
   | cons x xs =>
    simp only [List.map_cons, flatL, Ob, Oj] at hv
    obtain ⟨a, h1, b, h2, rfl⟩ := hv
    have h3 := hx 0 f rfl
    simp only [List.getElem?_cons_zero] at h3
    have h4 := hok _ _ _ _ _ h3 hf h1
    obtain ⟨h5, h6⟩ := fields_flat hok r _ e xs b h (by simpa using hl) (fun i g hi => by simpa using hx (i + 1) g (by simpa using hi)) h2
    refine ⟨by omega, ?_⟩
    rw [ho] at h4
    rw [← h4, ← h6, show e - o = P.cellsOf f.type + (e - (o + P.cellsOf f.type)) by omega, List.take_add, Yd]
theorem flat_ok {W : World} {enc : TypeId × Value → Unit} {base : Nat} {spare : Nat → Bool} {held : Bool} : ∀ (n m : Nat) (t : TypeId) (cs : List Value) (d : DataW Unit) (ps : List MemPlace) (vs : List Value), DataW.trod enc P W base spare held m t cs = some (d, ps) → contig P n t = true → flatD d = some vs → cs = vs := by
 intro n
 induction n with
 | zero => intro m t cs d ps vs _ h; cases h
 | succ n ih =>
  intro m t cs d ps vs h hc hv
  unfold contig at hc
  split at hc
  ·rename_i k hu
   obtain ⟨z, rfl, e, _⟩ := DataW.trod_int hu h
   cases e
   simpa [flatD] using hv
  ·rename_i hu
   obtain ⟨z, rfl, e⟩ := DataW.trod_bool hu h
   cases e
   simpa [flatD] using hv
  ·rename_i hu
   obtain ⟨z, rfl, e, _⟩ := DataW.trod_string hu h
   cases e
   simpa [flatD] using hv
  ·rename_i k e hu
   simp only [Bool.and_eq_true, Nat.beq_eq] at hc
   obtain ⟨c1, c2⟩ := hc
   obtain ⟨xs, m', _, ex, hl, hlen, hel⟩ := DataW.trod_array hu h
   cases ex
   simp only [flatD] at hv
   obtain ⟨ys, y1, rfl, y2⟩ := flatL_some hv
   simp only [List.length_map] at y1
   refine chunks_flat (c := P.cellsOf e) ys cs (by rw [hl, c2, y1, hlen]) fun i hi => ?_
   have hi' : i < xs.length := by omega
   obtain ⟨x, x1, x2⟩ := y2 i _ (by rw [List.getElem?_map, Yg hi']; rfl)
   have := hel i (by omega)
   rw [Yg hi'] at this
   rw [x1, ih _ _ _ _ _ _ this c1 x2]
  ·rename_i fs hu
   obtain ⟨xs, m', _, ex, hl, hlen, hel⟩ := DataW.trod_struct hu h
   cases ex
   simp only [flatD] at hv
   have hc' : fieldsEnd P (contig P n) fs.toList 0 = some (P.cellsOf t) := by simpa using hc
   obtain ⟨_, h2⟩ := fields_flat (cs := cs) (fun t cs d ps vs a b c => ih m' t cs d ps vs a b c) fs.toList 0 _ xs vs hc' (by simpa using hlen) (fun i f hi => hel i f (by simpa using hi)) hv
   simp only [List.drop_zero, Nat.sub_zero] at h2
   rw [← h2, ← hl, List.take_length]
  ·cases hc
theorem laid_mem {W : World} : ∀ {l : List (String × DataW Unit)} {ps : List MemPlace}, DataW.LaidVars P W l ps → ∀ {x : String × DataW Unit}, x ∈ l →
  ∃ g t cs fuel p, P.globalNamed x.1 = some g ∧ (P.globals[g]?).map (·.type) = some t ∧ W.var? P x.1 = some cs ∧ DataW.trod (fun _ => ()) P W 0 (fun _ => true) false fuel t cs.toList = some (x.2, p)
 | [], ps, _, x, hx => by cases hx
 | y :: r, ps, h, x, hx => by
  obtain ⟨g, t, cs, fuel, p, q, h1, h2, h3, h4, h5, _⟩ := h
  rcases List.mem_cons.mp hx with rfl | hx
  ·exact ⟨g, t, cs, fuel, p, h1, h2, h3, h4⟩
  ·exact laid_mem h5 hx
def globB (P : Program) (laid : List (String × DataW Unit)) (n : String) (b : Nat) (d : DataW Unit) (vs : List Value) : Prop :=
 (n, d) ∈ laid ∧ d.handleName? = none ∧ P.globalNamed n = some b ∧ (∃ t, (P.globals[b]?).map (·.type) = some t ∧ contig P 5 t = true) ∧ flatD d = some vs
theorem cells_of_laid {laid : List (String × DataW Unit)} {W : World} (h : laidMetH P laid W) {n : String} {b : Nat} {d : DataW Unit} {vs : List Value} (hb : globB P laid n b d vs) : ∀ i V, vs[i]? = some V → W.cell? ⟨b, i, none⟩ = some V := by
 obtain ⟨b1, b2, b3, ⟨t, b4, b5⟩, b6⟩ := hb
 have key : ∃ l, laidMet P l W ∧ (n, d) ∈ l := by
  unfold laidMetH at h
  split at h
  ·exact ⟨_, h, b1⟩
  ·exact ⟨_, h.1, List.mem_filter.mpr ⟨b1, by simp [b2]⟩⟩
 obtain ⟨l, ⟨ps, h1, _⟩, h2⟩ := key
 obtain ⟨g, t', cs, fuel, p, k1, k2, k3, k4⟩ := laid_mem h1 h2
 rw [b3] at k1
 cases k1
 rw [b4] at k2
 cases k2
 have := flat_ok 5 _ _ _ _ _ _ k4 b5 b6
 intro i V hi
 rw [World.var?_cell b3 k3, ← Array.getElem?_toList, this]
 exact hi
end
end Go.Sh.Ev
namespace Go.Sh.YtkghbcadnbojgaaGreatDoor
open Go Go.Proofs Go.RowKit
set_option linter.unusedVariables false
set_option linter.unusedSimpArgs false
set_option maxRecDepth 100000
open Go Go.Proofs Go.RowKit Go.Sh.Ev
open Go.Proofs.Tryz renaming prog → Zp, underlying9 → Uz
open Go.Instr renaming loadAt → Zl, storeAt → Zs, indexAt → Zj, alloc → Za
open Go.Value renaming int → Vi
open Go.Builtin renaming len_ → Yl
open List renaming getElem?_eq_getElem → Yg, drop_drop → Yd, length_drop → Ye
open Go.Sh renaming prun → Pq
def hnd : Value := .iface 163 (.agg #[.pointer (some ⟨15, 32, none⟩)])
def asW (e t : Addr) (w : World) : World :=
 ((((w.alloc (.cells #[.pointer (some t)] 102)).alloc (.cells #[.pointer (some ⟨15, 102, none⟩), .pointer (some ⟨w.heap.size, 0, none⟩), .int .u64 150] 137)).alloc (.cells #[.pointer (some ⟨15, 102, none⟩), .pointer (some ⟨w.heap.size, 0, none⟩), .int .u64 150] 137)).alloc (.cells #[.pointer (some e)] 99)).setCell t (.pointer (some e))
def asWF (e t : Addr) (w : World) : World :=
 ((((w.alloc (.cells #[.pointer (some t)] 85)).alloc (.cells #[.pointer (some ⟨15, 85, none⟩), .pointer (some ⟨w.heap.size, 0, none⟩), .int .u64 150] 137)).alloc (.cells #[.pointer (some ⟨15, 85, none⟩), .pointer (some ⟨w.heap.size, 0, none⟩), .int .u64 150] 137)).alloc (.cells #[.pointer (some e)] 82)).setCell t (.pointer (some e))
open Classical in
noncomputable def asCall (args : List Value) (w : World) : Option (Value × World) := match args with
 | [.iface 99 (.pointer (some e)), .iface 102 (.pointer (some t))] => if w.cell? ⟨0, 0, none⟩ = some hnd ∧ (∃ old, w.cell? t = some old) ∧ w.frozen? t = false then some (.bool true, asW e t w) else none
 | [.iface 82 (.pointer (some e)), .iface 85 (.pointer (some t))] => if w.cell? ⟨0, 0, none⟩ = some hnd ∧ (∃ old, w.cell? t = some old) ∧ w.frozen? t = false then some (.bool true, asWF e t w) else none
 | _ => none
noncomputable def isCall (args : List Value) (w : World) : Option (Value × World) := match args with
 | [.iface 99 (.pointer (some ⟨b, 0, none⟩)), .iface 35 (.int .i64 z)] => match w.cell? ⟨b, 1, none⟩ with
  | some (.int .i64 y) => some (.bool (y == z), w)
  | _ => none
 | [.iface 82 (.pointer (some ⟨b, 0, none⟩)), .iface 35 (.int .i64 z)] => match w.cell? ⟨b, 1, none⟩ with
  | some (.int .i64 y) => bif y == z then some (.bool true, w) else none
  | _ => none
 | _ => none
noncomputable def erCall : CallF := fun f args w => bif Nat.beq f 34 then asCall args.toList w else bif Nat.beq f 22 then isCall args.toList w else none
noncomputable def er : Prim := ⟨erCall, fun _ _ _ => none⟩
theorem asCall_some {args : List Value} {w : World} {r : Value × World} (h : asCall args w = some r) : ∃ e t, w.cell? ⟨0, 0, none⟩ = some hnd ∧ (∃ old, w.cell? t = some old) ∧ w.frozen? t = false ∧ ((args = [.iface 99 (.pointer (some e)), .iface 102 (.pointer (some t))] ∧ r = (.bool true, asW e t w)) ∨ (args = [.iface 82 (.pointer (some e)), .iface 85 (.pointer (some t))] ∧ r = (.bool true, asWF e t w))) := by
 unfold asCall at h
 split at h
 ·rename_i e t
  split at h
  ·rename_i hc
   exact ⟨e, t, hc.1, hc.2.1, hc.2.2, .inl ⟨rfl, (Option.some.inj h).symm⟩⟩
  ·cases h
 ·rename_i e t
  split at h
  ·rename_i hc
   exact ⟨e, t, hc.1, hc.2.1, hc.2.2, .inr ⟨rfl, (Option.some.inj h).symm⟩⟩
  ·cases h
 ·cases h
theorem isCall_some {args : List Value} {w : World} {r : Value × World} (h : isCall args w = some r) : ∃ b y z, w.cell? ⟨b, 1, none⟩ = some (.int .i64 y) ∧ ((args = [.iface 99 (.pointer (some ⟨b, 0, none⟩)), .iface 35 (.int .i64 z)] ∧ r = (.bool (y == z), w)) ∨ (args = [.iface 82 (.pointer (some ⟨b, 0, none⟩)), .iface 35 (.int .i64 z)] ∧ y = z ∧ r = (.bool true, w))) := by
 unfold isCall at h
 split at h
 ·rename_i b z
  split at h
  ·rename_i y hc
   exact ⟨b, y, z, hc, .inl ⟨rfl, (Option.some.inj h).symm⟩⟩
  ·cases h
 ·rename_i b z
  split at h
  ·rename_i y hc
   cases hyz : y == z with
   | true =>
    rw [hyz] at h
    exact ⟨b, y, z, hc, .inr ⟨rfl, by simpa using hyz, (Option.some.inj h).symm⟩⟩
   | false => rw [hyz] at h; cases h
  ·cases h
 ·cases h
theorem erCall_some {f : FuncId} {args : Array Value} {w : World} {r : Value × World} (h : erCall f args w = some r) : (f = 34 ∧ asCall args.toList w = some r) ∨ (f = 22 ∧ isCall args.toList w = some r) := by
 unfold erCall at h
 cases hb : Nat.beq f 34 with
 | true => rw [hb] at h; exact .inl ⟨Nat.eq_of_beq_eq_true hb, h⟩
 | false =>
  rw [hb] at h
  simp only [cond_false] at h
  cases hb2 : Nat.beq f 22 with
  | true => rw [hb2] at h; exact .inr ⟨Nat.eq_of_beq_eq_true hb2, h⟩
  | false => rw [hb2] at h; cases h
theorem enter34 (args : Array Value) (w : World) : (callFunc 34 args).run Zp w = .ok (.enter 34 args) w := by kernel_rfl
theorem enter22 (args : Array Value) (w : World) : (callFunc 22 args).run Zp w = .ok (.enter 22 args) w := by kernel_rfl
theorem er_ok : PrimOk Zp er := by
 refine ⟨⟨fun f args w r h => ?_, fun f args w r h => ?_⟩, ⟨fun f args w r h => absurd h (by intro h; cases h), fun f args w r h => absurd h (by intro h; cases h)⟩⟩
 ·have h' : erCall f args w = some r := h
  rcases erCall_some h' with ⟨rfl, _⟩ | ⟨rfl, _⟩
  ·exact enter34 args w
  ·exact enter22 args w
 ·have h' : erCall f args w = some r := h
  rcases erCall_some h' with ⟨rfl, h1⟩ | ⟨rfl, h1⟩
  ·obtain ⟨e, t, h2, ⟨old, h3⟩, h4, ⟨ha, rfl⟩ | ⟨ha, rfl⟩⟩ := asCall_some h1
   ·have : args = #[.iface 99 (.pointer (some e)), .iface 102 (.pointer (some t))] := by apply Array.ext'; simpa using ha
    subst this
    exact as_hitE e t old w h2 h3 h4
   ·have : args = #[.iface 82 (.pointer (some e)), .iface 85 (.pointer (some t))] := by apply Array.ext'; simpa using ha
    subst this
    exact as_hitF e t old w h2 h3 h4
  ·obtain ⟨b, y, z, h2, ⟨ha, rfl⟩ | ⟨ha, rfl, rfl⟩⟩ := isCall_some h1
   ·have : args = #[.iface 99 (.pointer (some ⟨b, 0, none⟩)), .iface 35 (.int .i64 z)] := by apply Array.ext'; simpa using ha
    subst this
    cases hyz : y == z with
    | true =>
     have : y = z := by simpa using hyz
     subst this
     exact is_same b y w h2
    | false => exact is_other b y z hyz w h2
   ·have : args = #[.iface 82 (.pointer (some ⟨b, 0, none⟩)), .iface 35 (.int .i64 y)] := by apply Array.ext'; simpa using ha
    subst this
    exact is_fault b y w h2
noncomputable abbrev C := R er
theorem asF_ok {w : World} {e t : Addr} {old : Value} (hg : w.cell? ⟨0, 0, none⟩ = some hnd) (ht : w.cell? t = some old) (hf : w.frozen? t = false) : C 34 #[.iface 82 (.pointer (some e)), .iface 85 (.pointer (some t))] w = some (.bool true, asWF e t w) := by
 refine run_prim ?_
 have h1 : asCall [.iface 82 (.pointer (some e)), .iface 85 (.pointer (some t))] w = some (.bool true, asWF e t w) := by
  unfold asCall
  simp only
  rw [if_pos ⟨hg, ⟨old, ht⟩, hf⟩]
 exact h1
theorem is_any {w : World} {b : Nat} {y z : Int} (h : w.cell? ⟨b, 1, none⟩ = some (.int .i64 y)) : C 22 #[.iface 99 (.pointer (some ⟨b, 0, none⟩)), .iface 35 (.int .i64 z)] w = some (.bool (y == z), w) := by
 refine run_prim ?_
 have h1 : isCall [.iface 99 (.pointer (some ⟨b, 0, none⟩)), .iface 35 (.int .i64 z)] w = some (.bool (y == z), w) := by
  unfold isCall
  simp only
  rw [h]
 exact h1
theorem isF_ok {w : World} {b : Nat} {z : Int} (h : w.cell? ⟨b, 1, none⟩ = some (.int .i64 z)) : C 22 #[.iface 82 (.pointer (some ⟨b, 0, none⟩)), .iface 35 (.int .i64 z)] w = some (.bool true, w) := by
 refine run_prim ?_
 have h1 : isCall [.iface 82 (.pointer (some ⟨b, 0, none⟩)), .iface 35 (.int .i64 z)] w = some (.bool true, w) := by
  unfold isCall
  simp only
  rw [h]
  simp
 exact h1
theorem frames_ok (s n : Value) (i o f : Int) (hi : -9223372036854775808 ≤ o - i) (hi' : o - i ≤ 9223372036854775807) (w : World) : ∃ w', C 46 #[.agg #[s, .int .i64 i, .int .i64 o, .int .i64 f, n]] w = some (.int .i64 (o - i), w') ∧ w.grownBy w' none := by
 refine ⟨w.alloc (.cells #[s, .int .i64 i, .int .i64 o, .int .i64 f, n] 51), f46.run rfl ?_, World.grownBy_alloc _ _ _⟩
 have b := Blk.new w 51 [s, .int .i64 i, .int .i64 o, .int .i64 f, n]
 have c1 := b.cell_eq 1 rfl
 have c2 := b.cell_eq 2 rfl
 have e : IntKind.i64.wrap (o - i) = o - i := wrap_i64 hi hi'
 simp [f46, box_any, Value.cells, addL, c1, c2, e]
theorem per10_ok (c n d r : Int) (h : 0 ≤ c ∧ c ≤ 1000 ∧ 0 ≤ r ∧ r ≤ 1000) (w : World) : ∃ w', C 106 #[.agg #[.int .i64 c, .int .i64 n, .int .i64 d, .int .i64 r]] w = some (.int .i64 (600 * c - 9 * r), w') ∧ w.grownBy w' none := by
 refine ⟨w.alloc (.cells #[.int .i64 c, .int .i64 n, .int .i64 d, .int .i64 r] 145), f106.run rfl ?_, World.grownBy_alloc _ _ _⟩
 have b := Blk.new w 145 [.int .i64 c, .int .i64 n, .int .i64 d, .int .i64 r]
 have c0 := b.cell_eq 0 rfl
 have c3 := b.cell_eq 3 rfl
 have e1 : IntKind.i64.wrap (600 * c) = 600 * c := wrap_i64 (by omega) (by omega)
 have e2 : IntKind.i64.wrap (9 * r) = 9 * r := wrap_i64 (by omega) (by omega)
 have e3 : IntKind.i64.wrap (600 * c - 9 * r) = 600 * c - 9 * r := wrap_i64 (by omega) (by omega)
 simp [f106, box_any, Value.cells, addL, c0, c3, e1, e2, e3]
theorem wrong_ok (k e : Int) (w : World) : C 38 #[.int .i64 k, .int .i64 e] w = some (.iface 99 (.pointer (some ⟨w.heap.size, 0, none⟩)), w.alloc (.cells #[.int .i64 k, .int .i64 e] 101)) := by
 refine f38.run rfl ?_
 have b : Pq Zp (Instr.build 101 #[(0, .int .i64 k), (1, .int .i64 e)]) = some (.agg #[.int .i64 k, .int .i64 e]) := id (by kernel_rfl)
 simp [f38, b, box_any, Value.cells]
def nameByte (c : UInt8) : Bool := (97 ≤ c.toNat && c.toNat ≤ 122) || (48 ≤ c.toNat && c.toNat ≤ 57) || c.toNat == 95 || c.toNat == 45
def isName (l : List UInt8) : Bool := l.all nameByte && 1 ≤ l.length && l.length ≤ 16
theorem isName_ok (l : List UInt8) (hl : l.length ≤ 9223372036854775807) (w : World) : C 67 #[st l] w = some (.bool (isName l), w) := by
 have hs : Pq Zp (Yl #[9] 3 #[st l]) = some (.int .i64 l.length) := str_len Uz 3 l
 have key := iter_down (f := f67.l0 C) (fun d vs w1 => ∃ i : Nat, vs = [st l, .int .i64 l.length, .int .i64 i] ∧ i + d = l.length ∧ w1 = w ∧ (l.take i).all nameByte = true)
  (fun r => (r = .exit 0 [st l] w ∧ l.all nameByte = true) ∨ (r = .ret [.bool false] w ∧ l.all nameByte = false)) (by
   rintro d vs w1 ⟨i, rfl, hi, rfl, ha⟩
   cases d with
   | zero =>
    obtain rfl : i = l.length := by omega
    rw [List.take_length] at ha
    exact .inr ⟨_, by simp [f67.l0], .inl ⟨rfl, ha⟩, by simp⟩
   | succ d =>
    have hil : i < l.length := by omega
    have ix := str_index (P := Zp) Uz l .i64 i hil
    have e1 : IntKind.i64.wrap ((i : Int) + 1) = ((i + 1 : Nat) : Int) := (wrap_i64 (by omega) (by omega)).trans (by omega)
    have hlt : (i : Int) < (l.length : Int) := by omega
    obtain ⟨c, hc⟩ : ∃ c, c = l[i] := ⟨_, rfl⟩
    rw [← hc] at ix
    obtain ⟨n, hn⟩ : ∃ n : Nat, n = c.toNat := ⟨_, rfl⟩
    rw [← hn] at ix
    cases hb : nameByte c with
    | true =>
     have hb' : ((97 ≤ n ∧ n ≤ 122) ∨ (48 ≤ n ∧ n ≤ 57)) ∨ n = 95 ∨ n = 45 := by
      simp [nameByte, ← hn] at hb
      omega
     refine .inl ⟨d, _, w1, by omega, ?_, ⟨i + 1, rfl, by omega, rfl, ?_⟩⟩
     ·rcases hb' with (⟨h1, h2⟩ | ⟨h1, h2⟩) | h | h
      ·simp (disch := omega) [f67.l0, hlt, ix, lt_t, lt_f, e1]
      ·simp (disch := omega) [f67.l0, hlt, ix, lt_t, lt_f, e1]
      ·have h' : (n : Int) = 95 := by omega
       simp [f67.l0, hlt, ix, h', e1]
      ·have h' : (n : Int) = 45 := by omega
       simp [f67.l0, hlt, ix, h', e1]
     ·rw [List.take_succ_eq_append_getElem hil, List.all_append, ha, ← hc]
      simp [hb]
    | false =>
     refine .inr ⟨.ret [.bool false] w1, ?_, .inr ⟨rfl, ?_⟩, by simp⟩
     ·have hb' : ¬ (97 ≤ n ∧ n ≤ 122) ∧ ¬ (48 ≤ n ∧ n ≤ 57) ∧ n ≠ 95 ∧ n ≠ 45 := by
       simp [nameByte, ← hn] at hb
       omega
      have n1 : ¬ (n : Int) = 95 := by omega
      have n2 : ((n : Int) != 45) = true := by simp; omega
      by_cases a1 : (97 : Int) ≤ n
      ·have a2 : (122 : Int) < n := by omega
       have a3 : (48 : Int) ≤ n := by omega
       have a4 : (57 : Int) < n := by omega
       simp [f67.l0, hlt, ix, a1, a2, a3, a4, n1, n2]
      ·by_cases a3 : (48 : Int) ≤ n
       ·have a4 : (57 : Int) < n := by omega
        simp [f67.l0, hlt, ix, a1, a3, a4, n1, n2]
       ·simp [f67.l0, hlt, ix, a1, a3, n1, n2]
     ·rw [List.all_eq_false]
      exact ⟨l[i], List.getElem_mem hil, by rw [← hc, hb]; simp⟩) l.length _ w ⟨0, rfl, by omega, rfl, by simp⟩
 obtain ⟨r, h1, h2⟩ := key
 refine f67.run rfl ?_
 rcases h2 with ⟨rfl, h2⟩ | ⟨rfl, h2⟩
 ·simp at h1
  by_cases a1 : (1 : Int) ≤ l.length
  ·have a1' : 1 ≤ l.length := by omega
   by_cases a2 : (l.length : Int) ≤ 16
   ·have a2' : l.length ≤ 16 := by omega
    simp [f67, hs, h1, isName, h2, a1, a2, a1', a2']
   ·have a2' : ¬ l.length ≤ 16 := by omega
    simp [f67, hs, h1, isName, h2, a1, a2, a1', a2']
  ·have a1' : ¬ 1 ≤ l.length := by omega
   simp [f67, hs, h1, isName, h2, a1, a1']
 ·simp at h1
  simp [f67, hs, h1, isName, h2]
def rates : List (Int × Int × Int × Int) := [(0, 0, 0, 0), (24, 24, 1, 0), (25, 25, 1, 0), (30, 30, 1, 0), (30, 30000, 1001, 2), (50, 50, 1, 0), (60, 60, 1, 0), (60, 60000, 1001, 4)]
def rc (x : Int × Int × Int × Int) : List Value := [.int .i64 x.1, .int .i64 x.2.1, .int .i64 x.2.2.1, .int .i64 x.2.2.2]
def tbl : List Value := rates.flatMap rc
def Tb (w : World) : Prop := Rd w (some ⟨3, 0, none⟩) tbl
theorem alloc145 (w : World) : erun Zp (Za 145 true (.tuple #[])) w = some (.pointer (some ⟨w.heap.size, 0, none⟩), w.alloc (.cells #[.int .i64 0, .int .i64 0, .int .i64 0, .int .i64 0] 145)) := id (by kernel_rfl)
theorem build145 : Pq Zp (Instr.build 145 #[]) = some (.agg #[.int .i64 0, .int .i64 0, .int .i64 0, .int .i64 0]) := id (by kernel_rfl)
theorem st145 {w : World} {b : Nat} {cs : List Value} (h : Blk w b 145 cs) (hc : cs.length = 4) (a0 a1 a2 a3 : Value) (h1 : ∀ u ∈ [a0, a1, a2, a3], u.oneCell' = true) : ∃ w', erun Zp (Zs 145 (.pointer (some ⟨b, 0, none⟩)) (.agg #[a0, a1, a2, a3])) w = some ((), w') ∧ Blk w' b 145 [a0, a1, a2, a3] ∧ w.grownBy w' (some b) :=
 h.storeAll inf145 (o := 0) (vs := [a0, a1, a2, a3]) rfl (by rw [size145]; rfl) (by simp; omega) h1 (by simp [hc])
def rv (x : Int × Int × Int × Int) : Value := .agg #[.int .i64 x.1, .int .i64 x.2.1, .int .i64 x.2.2.1, .int .i64 x.2.2.2]
theorem ld145b {w : World} {b : Nat} {x : Int × Int × Int × Int} (h : Blk w b 145 (rc x)) : rrun Zp (Zl 145 (.pointer (some ⟨b, 0, none⟩))) w = some (rv x) :=
 ld145 (a := ⟨b, 0, none⟩) (by rw [addL]; exact h.cell_eq 0 rfl) (by rw [addL]; exact h.cell_eq 1 rfl) (by rw [addL]; exact h.cell_eq 2 rfl) (by rw [addL]; exact h.cell_eq 3 rfl)
theorem lay145 (x : Int × Int × Int × Int) (w : World) : ∃ w', erun Zp (Zs 145 (.pointer (some ⟨w.heap.size, 0, none⟩)) (rv x)) (w.alloc (.cells #[.int .i64 0, .int .i64 0, .int .i64 0, .int .i64 0] 145)) = some ((), w') ∧ Blk w' w.heap.size 145 (rc x) ∧ w.grownBy w' none := by
 have b := Blk.new w 145 [.int .i64 0, .int .i64 0, .int .i64 0, .int .i64 0]
 have g1 := World.grownBy_alloc w (.cells #[.int .i64 0, .int .i64 0, .int .i64 0, .int .i64 0] 145) none
 obtain ⟨w2, h2, b2, g2⟩ := st145 b rfl (.int .i64 x.1) (.int .i64 x.2.1) (.int .i64 x.2.2.1) (.int .i64 x.2.2.2) (by simp [Value.oneCell'])
 exact ⟨w2, h2, b2, grown_trans g1 g2 (fun k hk => by cases hk; exact Nat.le_refl _)⟩
theorem find_out (r : Int) (hr : r < 1 ∨ 7 < r) (w : World) : ∃ w', C 80 #[.int .i64 r] w = some (.tuple #[rv (0, 0, 0, 0), .bool false], w') ∧ w.grownBy w' none := by
 obtain ⟨w2, h2, b2, g2⟩ := lay145 (0, 0, 0, 0) w
 have l2 := ld145b b2
 refine ⟨w2, f80.run rfl ?_, g2⟩
 have h2' : erun Zp (Zs 145 (.pointer (some ⟨w.heap.size, 0, none⟩)) (.agg #[.int .i64 0, .int .i64 0, .int .i64 0, .int .i64 0])) (w.alloc (.cells #[.int .i64 0, .int .i64 0, .int .i64 0, .int .i64 0] 145)) = some ((), w2) := h2
 by_cases h1 : r < 1
 ·simp [f80, alloc145, h1, build145, h2', l2]
 ·have h7 : 7 < r := by omega
  simp [f80, alloc145, h1, h7, build145, h2', l2]
theorem ix188 (k : Nat) (h : k < 8) : Pq Zp (Zj 188 (.pointer (some ⟨3, 0, none⟩)) (.int .i64 k)) = some (.pointer (some ⟨3, k * 4, none⟩)) := by
 have h0 : Pq Zp (Zj 188 (.pointer (some ⟨3, 0, none⟩)) (.int .i64 0)) = some (.pointer (some ⟨3, 0, none⟩)) := by kernel_rfl
 have h1 : Pq Zp (Zj 188 (.pointer (some ⟨3, 0, none⟩)) (.int .i64 1)) = some (.pointer (some ⟨3, 4, none⟩)) := by kernel_rfl
 have h2 : Pq Zp (Zj 188 (.pointer (some ⟨3, 0, none⟩)) (.int .i64 2)) = some (.pointer (some ⟨3, 8, none⟩)) := by kernel_rfl
 have h3 : Pq Zp (Zj 188 (.pointer (some ⟨3, 0, none⟩)) (.int .i64 3)) = some (.pointer (some ⟨3, 12, none⟩)) := by kernel_rfl
 have h4 : Pq Zp (Zj 188 (.pointer (some ⟨3, 0, none⟩)) (.int .i64 4)) = some (.pointer (some ⟨3, 16, none⟩)) := by kernel_rfl
 have h5 : Pq Zp (Zj 188 (.pointer (some ⟨3, 0, none⟩)) (.int .i64 5)) = some (.pointer (some ⟨3, 20, none⟩)) := by kernel_rfl
 have h6 : Pq Zp (Zj 188 (.pointer (some ⟨3, 0, none⟩)) (.int .i64 6)) = some (.pointer (some ⟨3, 24, none⟩)) := by kernel_rfl
 have h7 : Pq Zp (Zj 188 (.pointer (some ⟨3, 0, none⟩)) (.int .i64 7)) = some (.pointer (some ⟨3, 28, none⟩)) := by kernel_rfl
 rcases (show k = 0 ∨ k = 1 ∨ k = 2 ∨ k = 3 ∨ k = 4 ∨ k = 5 ∨ k = 6 ∨ k = 7 by omega) with rfl | rfl | rfl | rfl | rfl | rfl | rfl | rfl
 ·exact h0
 ·exact h1
 ·exact h2
 ·exact h3
 ·exact h4
 ·exact h5
 ·exact h6
 ·exact h7
theorem tbl_get {k : Nat} {x : Int × Int × Int × Int} (h : rates[k]? = some x) : tbl[k * 4]? = some (.int .i64 x.1) ∧ tbl[k * 4 + 1]? = some (.int .i64 x.2.1) ∧ tbl[k * 4 + 2]? = some (.int .i64 x.2.2.1) ∧ tbl[k * 4 + 3]? = some (.int .i64 x.2.2.2) := by
 have hk : k < 8 := (List.getElem?_eq_some_iff.mp h).1
 match k, hk with
 | 0, _ => cases h; exact ⟨rfl, rfl, rfl, rfl⟩
 | 1, _ => cases h; exact ⟨rfl, rfl, rfl, rfl⟩
 | 2, _ => cases h; exact ⟨rfl, rfl, rfl, rfl⟩
 | 3, _ => cases h; exact ⟨rfl, rfl, rfl, rfl⟩
 | 4, _ => cases h; exact ⟨rfl, rfl, rfl, rfl⟩
 | 5, _ => cases h; exact ⟨rfl, rfl, rfl, rfl⟩
 | 6, _ => cases h; exact ⟨rfl, rfl, rfl, rfl⟩
 | 7, _ => cases h; exact ⟨rfl, rfl, rfl, rfl⟩
theorem find_in {w : World} (T : Tb w) (k : Nat) (hk : 1 ≤ k) {x : Int × Int × Int × Int} (hx : rates[k]? = some x) : ∃ w', C 80 #[.int .i64 k] w = some (.tuple #[rv x, .bool true], w') ∧ w.grownBy w' none := by
 have hk8 : k < 8 := (List.getElem?_eq_some_iff.mp hx).1
 obtain ⟨w2, h2, b2, g2⟩ := lay145 x w
 have l2 := ld145b b2
 have T1 : Tb (w.alloc (.cells #[.int .i64 0, .int .i64 0, .int .i64 0, .int .i64 0] 145)) := Rd.grown T (World.grownBy_alloc w _ none)
 obtain ⟨c0, c1, c2, c3⟩ := tbl_get hx
 have e : ∀ j, (⟨3, 0, none⟩ : Addr).add j = ⟨3, j, none⟩ := fun j => by rw [addL, Nat.zero_add]
 have q0 := T1 _ _ c0
 have q1 := T1 _ _ c1
 have q2 := T1 _ _ c2
 have q3 := T1 _ _ c3
 rw [e] at q0 q1 q2 q3
 have l3 : rrun Zp (Zl 145 (.pointer (some ⟨3, k * 4, none⟩))) (w.alloc (.cells #[.int .i64 0, .int .i64 0, .int .i64 0, .int .i64 0] 145)) = some (rv x) := ld145 (a := ⟨3, k * 4, none⟩) (by rw [addL]; exact q0) (by rw [addL]; exact q1) (by rw [addL]; exact q2) (by rw [addL]; exact q3)
 have ix := ix188 k hk8
 refine ⟨w2, f80.run rfl ?_, g2⟩
 have h1 : ¬ (k : Int) < 1 := by omega
 have h7 : ¬ (7 : Int) < k := by omega
 simp [f80, alloc145, h1, h7, ix, l3, h2, l2]
theorem perday_ok {x : Int × Int × Int × Int} (hx : x ∈ rates) (w : World) : ∃ w', C 81 #[rv x] w = some (.int .i64 (144 * (600 * x.1 - 9 * x.2.2.2)), w') ∧ w.grownBy w' none := by
 have hb : 0 ≤ x.1 ∧ x.1 ≤ 1000 ∧ 0 ≤ x.2.2.2 ∧ x.2.2.2 ≤ 1000 := by
  simp only [rates, List.mem_cons, List.not_mem_nil, or_false] at hx
  rcases hx with rfl | rfl | rfl | rfl | rfl | rfl | rfl | rfl <;> simp
 have b := Blk.new w 145 (rc x)
 have l1 := ld145b b
 obtain ⟨w2, h2, g2⟩ := per10_ok x.1 x.2.1 x.2.2.1 x.2.2.2 hb (w.alloc (.cells (rc x).toArray 145))
 have e : IntKind.i64.wrap (144 * (600 * x.1 - 9 * x.2.2.2)) = 144 * (600 * x.1 - 9 * x.2.2.2) := wrap_i64 (by omega) (by omega)
 refine ⟨w2, f81.run rfl ?_, grown_trans (World.grownBy_alloc w _ none) g2 (by simp)⟩
 simp only [rc, rv] at l1 h2
 simp [f81, rv, box_any, Value.cells, l1, h2, e]
def perDay (x : Int × Int × Int × Int) : Int := 144 * (600 * x.1 - 9 * x.2.2.2)
theorem PerDay_out (r : Int) (hr : r < 1 ∨ 7 < r) (w : World) : ∃ w', C 37 #[.int .i64 r] w = some (.tuple #[.int .i64 0, .int .i64 181], w') ∧ w.grownBy w' none := by
 obtain ⟨w1, h1, g1⟩ := find_out r hr w
 obtain ⟨w2, h2, b2, g2⟩ := lay145 (0, 0, 0, 0) w1
 refine ⟨w2, f37.run rfl ?_, grown_trans g1 g2 (by simp)⟩
 simp [f37, h1, alloc145, h2]
theorem PerDay_in {w : World} (T : Tb w) (k : Nat) (hk : 1 ≤ k) {x : Int × Int × Int × Int} (hx : rates[k]? = some x) : ∃ w', C 37 #[.int .i64 k] w = some (.tuple #[.int .i64 (perDay x), .int .i64 0], w') ∧ w.grownBy w' none := by
 obtain ⟨w1, h1, g1⟩ := find_in T k hk hx
 obtain ⟨w2, h2, b2, g2⟩ := lay145 x w1
 have l2 := ld145b b2
 obtain ⟨w3, h3, g3⟩ := perday_ok (List.mem_of_getElem? hx) w2
 refine ⟨w3, f37.run rfl ?_, grown_trans (grown_trans g1 g2 (by simp)) g3 (by simp)⟩
 simp [f37, h1, alloc145, h2, l2, h3, perDay]
structure Ev where
 s : List UInt8
 i : Int
 o : Int
 f : Int
 n : List UInt8
def Ev.cs (e : Ev) : List Value := [st e.s, .int .i64 e.i, .int .i64 e.o, .int .i64 e.f, st e.n]
def Ev.v (e : Ev) : Value := .agg #[st e.s, .int .i64 e.i, .int .i64 e.o, .int .i64 e.f, st e.n]
def Ev.mid (e : Ev) : Prop := 0 ≤ e.i ∧ e.i < e.o ∧ e.o ≤ 100000000
theorem ev_get {q : List Ev} {i : Nat} {o : Ev} (hi : q[i]? = some o) {j : Nat} (hj : j < 5) : (q.flatMap Ev.cs)[i * 5 + j]? = o.cs[j]? := by
 induction q generalizing i with
 | nil => simp at hi
 | cons a l ih =>
  have hl : a.cs.length = 5 := rfl
  cases i with
  | zero =>
   simp at hi
   subst hi
   rw [List.flatMap_cons, Nat.zero_mul, Nat.zero_add, List.getElem?_append_left (by omega)]
  | succ i =>
   simp at hi
   rw [List.flatMap_cons, List.getElem?_append_right (by omega), hl, show (i + 1) * 5 + j - 5 = i * 5 + j by omega]
   exact ih hi
theorem ev_ld {w : World} {a : Addr} {q : List Ev} (hr : Rd w (some a) (q.flatMap Ev.cs)) {i : Nat} {o : Ev} (hi : q[i]? = some o) : rrun Zp (Zl 51 (.pointer (some (a.add (i * 5))))) w = some o.v :=
 ld51 (by rw [Addr.add_add]; exact hr _ _ (ev_get hi (by omega))) (by rw [Addr.add_add]; exact hr _ _ (ev_get hi (by omega))) (by rw [Addr.add_add]; exact hr _ _ (ev_get hi (by omega))) (by rw [Addr.add_add]; exact hr _ _ (ev_get hi (by omega))) (by rw [Addr.add_add]; exact hr _ _ (ev_get hi (by omega)))
theorem alloc51 (w : World) : erun Zp (Za 51 true (.tuple #[])) w = some (.pointer (some ⟨w.heap.size, 0, none⟩), w.alloc (.cells #[st [], .int .i64 0, .int .i64 0, .int .i64 0, st []] 51)) := id (by kernel_rfl)
theorem ev_blk {w : World} {b : Nat} {e : Ev} (h : Blk w b 51 e.cs) : rrun Zp (Zl 51 (.pointer (some ⟨b, 0, none⟩))) w = some e.v :=
 ld51 (a := ⟨b, 0, none⟩) (by rw [addL]; exact h.cell_eq 0 rfl) (by rw [addL]; exact h.cell_eq 1 rfl) (by rw [addL]; exact h.cell_eq 2 rfl) (by rw [addL]; exact h.cell_eq 3 rfl) (by rw [addL]; exact h.cell_eq 4 rfl)
theorem lay51 (e : Ev) (w : World) : ∃ w', erun Zp (Zs 51 (.pointer (some ⟨w.heap.size, 0, none⟩)) e.v) (w.alloc (.cells #[st [], .int .i64 0, .int .i64 0, .int .i64 0, st []] 51)) = some ((), w') ∧ Blk w' w.heap.size 51 e.cs ∧ w.grownBy w' none := by
 have b := Blk.new w 51 [st [], .int .i64 0, .int .i64 0, .int .i64 0, st []]
 have g1 := World.grownBy_alloc w (.cells #[st [], .int .i64 0, .int .i64 0, .int .i64 0, st []] 51) none
 obtain ⟨w2, h2, b2, g2⟩ := Blk.storeAll (P := Zp) b (t := 51) inf51 (o := 0) (v := e.v) (vs := e.cs) (cs' := e.cs) rfl (by rw [size51]; rfl) (by simp [Ev.cs]) (by simp [Ev.cs, Value.oneCell']) (by simp [Ev.cs])
 exact ⟨w2, h2, b2, grown_trans g1 g2 (fun k hk => by cases hk; exact Nat.le_refl _)⟩
def fadeMay (ahead : List Ev) (e : Ev) : Bool :=
 decide (e.f = 0) || (decide (0 ≤ e.f) && decide (e.f ≤ 100) && decide (e.f ≤ e.o - e.i) && match ahead.getLast? with
  | none => false
  | some l => decide (e.f ≤ l.o - l.i - l.f))
theorem fades_ok {w : World} {A : Option Addr} {c : Nat} {ahead : List Ev} {e : Ev} (hr : Rd w A (ahead.flatMap Ev.cs)) (hl : ahead.length ≤ 1000000) (he : e.mid) (ha : ∀ x ∈ ahead, x.mid ∧ 0 ≤ x.f ∧ x.f ≤ 100) :
  ∃ w', C 83 #[.slice A ahead.length c, e.v] w = some (.bool (fadeMay ahead e), w') ∧ w.grownBy w' none := by
 have hf0 : fadeMay ahead e = fadeMay ahead e := rfl
 obtain ⟨w1, hw1⟩ : ∃ w1, w1 = w.alloc (.cells #[st e.s, .int .i64 e.i, .int .i64 e.o, .int .i64 e.f, st e.n] 51) := ⟨_, rfl⟩
 have b : Blk w1 w.heap.size 51 e.cs := hw1 ▸ Blk.new w 51 e.cs
 have g1 : w.grownBy w1 none := hw1 ▸ World.grownBy_alloc w _ none
 have c3 := b.cell_eq 3 rfl
 have bx : erun Zp (Instr.box 51 e.v) w = some (.pointer (some ⟨w.heap.size, 0, none⟩), w1) := by rw [hw1]; rfl
 have g1d : w.grownBy w1.drew none := grown_step g1 (grown_drew _ _)
 obtain ⟨m0, m1, m2⟩ := he
 by_cases z0 : e.f = 0
 ·refine ⟨w1, f83.run rfl ?_, g1⟩
  rw [z0] at c3
  simp [f83, bx, addL, c3, fadeMay, z0]
 by_cases z1 : e.f < 0
 ·refine ⟨w1.drew, f83.run rfl ?_, g1d⟩
  have : ¬ 0 ≤ e.f := by omega
  simp [f83, bx, addL, c3, fadeMay, z0, z1, this, wantedV, pickV, chkThen]
 by_cases z2 : 100 < e.f
 ·refine ⟨w1.drew, f83.run rfl ?_, g1d⟩
  have : ¬ e.f ≤ 100 := by omega
  simp [f83, bx, addL, c3, fadeMay, z0, z1, z2, this, wantedV, pickV, chkThen]
 cases hgl : ahead.getLast? with
 | none =>
  have hn : ahead = [] := by simpa using hgl
  subst hn
  refine ⟨w1.drew, f83.run rfl ?_, g1d⟩
  simp [f83, bx, addL, c3, fadeMay, z0, z1, z2, wantedV, pickV, chkThen]
 | some l =>
  have hne : ahead ≠ [] := by rintro rfl; simp at hgl
  have hpos : 0 < ahead.length := List.length_pos_iff.mpr hne
  have hlast : ahead[ahead.length - 1]? = some l := by rw [List.getLast?_eq_getElem?] at hgl; exact hgl
  obtain ⟨⟨l0, l1, l2⟩, l3, l4⟩ := ha l (List.mem_of_getElem? hlast)
  have ll : ((ahead.length : Int) == 0) = false := by simp; exact hne
  have lb := ev_blk (w := w1.drew) (b := w.heap.size) b
  obtain ⟨w2, h2, g2⟩ := frames_ok (st e.s) (st e.n) e.i e.o e.f (by omega) (by omega) w1.drew
  have b2 : Blk w2 w.heap.size 51 e.cs := Blk.grown (w := w1.drew) b g2 (by simp)
  have c32 := b2.cell_eq 3 rfl
  by_cases z3 : e.o - e.i < e.f
  ·refine ⟨w2, f83.run rfl ?_, grown_trans g1d g2 (by simp)⟩
   have : ¬ e.f ≤ e.o - e.i := by omega
   simp only [Ev.v] at bx lb ⊢
   simp [f83, bx, addL, c3, lb, h2, c32, z0, z1, z2, z3, ll, hne, fadeMay, this, wantedV, pickV, chkThen]
  ·cases A with
   | none =>
    have h0 : ahead.flatMap Ev.cs = [] := hr
    have := ev_get hlast (show 0 < 5 by omega)
    rw [h0] at this
    simp [Ev.cs] at this
   | some a =>
    have G2 := grown_trans g1d g2 (by simp)
    have e1 : IntKind.i64.wrap ((ahead.length : Int) - 1) = (ahead.length : Int) - 1 := wrap_i64 (by omega) (by omega)
    have i1 := ix28 a ahead.length c .i64 ((ahead.length : Int) - 1) (by omega) (by omega)
    rw [show ((ahead.length : Int) - 1).toNat = ahead.length - 1 by omega] at i1
    have l1' := ev_ld (hr.grown G2) hlast
    obtain ⟨w3, h3, b3, g3⟩ := lay51 l w2
    have be3 : Blk w3 w.heap.size 51 e.cs := Blk.grown b2 g3 (by simp)
    have c33 := be3.cell_eq 3 rfl
    have d33 := b3.cell_eq 3 rfl
    have lb3 := ev_blk (w := w3.drew) b3
    obtain ⟨w4, h4, g4⟩ := frames_ok (st l.s) (st l.n) l.i l.o l.f (by omega) (by omega) w3.drew
    have be4 : Blk w4 w.heap.size 51 e.cs := Blk.grown (w := w3.drew) be3 g4 (by simp)
    have c34 := be4.cell_eq 3 rfl
    have bl4 : Blk w4 w2.heap.size 51 l.cs := Blk.grown (w := w3.drew) b3 g4 (by simp)
    have d34 := bl4.cell_eq 3 rfl
    have e2 : IntKind.i64.wrap (l.o - l.i - l.f) = l.o - l.i - l.f := wrap_i64 (by omega) (by omega)
    refine ⟨w4, f83.run rfl ?_, grown_trans (grown_trans G2 g3 (by simp)) (grown_step (grown_drew _ _) g4) (by simp)⟩
    have z3' : e.f ≤ e.o - e.i := by omega
    have z1' : 0 ≤ e.f := by omega
    have z2' : e.f ≤ 100 := by omega
    simp only [Ev.v] at bx lb l1' h3 lb3 ⊢
    simp [f83, bx, addL, c3, lb, h2, c32, z0, z1, z2, z3, ll, hne, e1, i1, l1', alloc51, h3, c33, lb3, h4, c34, d34, e2, fadeMay, hgl, z1', z2', z3', wantedV, pickV, chkThen]
    rw [if_pos (by simp [c33, c34, d33, d34])]
    rfl
theorem cv5_159 (x : Int) : Pq Zp (convert 5 159 (.int .u8 x)) = some (.int .u64 (IntKind.u64.wrap x)) := id (by kernel_rfl)
def Hi (x : Int) (p : Nat → Bool) : Prop := 0 ≤ x ∧ x < 18446744073709551616 ∧ ∀ i, i < 8 → (BitVec.ofInt 64 x).getLsbD (8 * i + 7) = p i
theorem wrap_u64 {x : Int} (h0 : 0 ≤ x) (h1 : x < 18446744073709551616) : IntKind.u64.wrap x = x := by
 simp [IntKind.wrap, IntKind.signed, IntKind.bits]; omega
theorem or_eq (x y : Int) : bits .or .u64 x y = ((BitVec.ofInt 64 x ||| BitVec.ofInt 64 y).toNat : Int) := by
 unfold bits
 simp only []
 exact wrap_u64 (x := ((BitVec.ofInt 64 x ||| BitVec.ofInt 64 y).toNat : Int)) (by omega) (by have := (BitVec.ofInt 64 x ||| BitVec.ofInt 64 y).isLt; omega)
theorem and_eq (x y : Int) : bits .and .u64 x y = ((BitVec.ofInt 64 x &&& BitVec.ofInt 64 y).toNat : Int) := by
 unfold bits
 simp only []
 exact wrap_u64 (x := ((BitVec.ofInt 64 x &&& BitVec.ofInt 64 y).toNat : Int)) (by omega) (by have := (BitVec.ofInt 64 x &&& BitVec.ofInt 64 y).isLt; omega)
theorem Hi.or {x y : Int} {p q : Nat → Bool} (h : Hi x p) (h' : Hi y q) : Hi (bits .or .u64 x y) (fun i => p i || q i) := by
 rw [or_eq]
 refine ⟨by omega, by have := (BitVec.ofInt 64 x ||| BitVec.ofInt 64 y).isLt; omega, fun i hi => ?_⟩
 have e : BitVec.ofInt 64 ((BitVec.ofInt 64 x ||| BitVec.ofInt 64 y).toNat : Int) = BitVec.ofInt 64 x ||| BitVec.ofInt 64 y := by
  rw [BitVec.ofInt_natCast, BitVec.ofNat_toNat]; simp
 rw [e, BitVec.getLsbD_or, h.2.2 i hi, h'.2.2 i hi]
theorem Hi.none {x : Int} {p : Nat → Bool} (h : Hi x p) (h0 : bits .and .u64 x 9259542123273814144 = 0) : ∀ i, i < 8 → p i = false := by
 intro i hi
 rw [and_eq] at h0
 have h1 : BitVec.ofInt 64 x &&& BitVec.ofInt 64 9259542123273814144 = 0#64 := by
  apply BitVec.eq_of_toNat_eq
  simpa using h0
 have h2 : (BitVec.ofInt 64 x &&& BitVec.ofInt 64 9259542123273814144).getLsbD (8 * i + 7) = false := by rw [h1]; simp
 rw [BitVec.getLsbD_and, h.2.2 i hi] at h2
 have h3 : (BitVec.ofInt 64 9259542123273814144).getLsbD (8 * i + 7) = true := by
  rcases (show i = 0 ∨ i = 1 ∨ i = 2 ∨ i = 3 ∨ i = 4 ∨ i = 5 ∨ i = 6 ∨ i = 7 by omega) with rfl | rfl | rfl | rfl | rfl | rfl | rfl | rfl <;> decide
 rw [h3] at h2
 simpa using h2
theorem Hi.byte (b : UInt8) (j : Nat) (hj : j < 8) : Hi ((b.toNat : Int) * 2 ^ (8 * j)) (fun i => decide (i = j) && decide (128 ≤ b.toNat)) := by
 have hb := b.toNat_lt
 have hp : (2 : Nat) ^ (8 * j) ≤ 2 ^ 56 := Nat.pow_le_pow_right (by omega) (by omega)
 have hlt : b.toNat * 2 ^ (8 * j) < 2 ^ 64 := by
  calc b.toNat * 2 ^ (8 * j) ≤ 255 * 2 ^ 56 := Nat.mul_le_mul (by omega) hp
   _ < 2 ^ 64 := by decide
 have e : ((b.toNat : Int) * 2 ^ (8 * j)) = ((b.toNat * 2 ^ (8 * j) : Nat) : Int) := by simp
 rw [e]
 refine ⟨by omega, by omega, fun i hi => ?_⟩
 rw [BitVec.ofInt_natCast, BitVec.getLsbD_ofNat, ← Nat.shiftLeft_eq, Nat.testBit_shiftLeft]
 by_cases hij : i = j
 ·subst hij
  have h1 : 8 * i + 7 - 8 * i = 7 := by omega
  have h2 : Nat.testBit b.toNat 7 = decide (128 ≤ b.toNat) := by
   rw [Nat.testBit_eq_decide_div_mod_eq]
   congr 1
   apply propext
   constructor <;> intro h <;> omega
  rw [h1, h2]
  simp
  omega
 ·by_cases hlt' : i < j
  ·have : ¬ (8 * i + 7 ≥ 8 * j) := by omega
   simp [hij, this]
  ·have h2 : Nat.testBit b.toNat (8 * i + 7 - 8 * j) = false := Nat.testBit_lt_two_pow (Nat.lt_of_lt_of_le (show b.toNat < 2 ^ 8 from hb) (Nat.pow_le_pow_right (by omega) (by omega)))
   rw [h2]
   simp [hij]
theorem Hi.eq {x : Int} {p q : Nat → Bool} (h : Hi x p) (e : ∀ i, i < 8 → p i = q i) : Hi x q := ⟨h.1, h.2.1, fun i hi => (h.2.2 i hi).trans (e i hi)⟩
theorem sh_byte (b : UInt8) (j : Nat) (hj : j < 8) (t : TypeId) (x y : Operand) : Pq Zp (do eqGuard .shl t x y (.int .u64 b.toNat) (.int .u64 ((8 * j : Nat) : Int)); binOp .shl t (.int .u64 b.toNat) (.int .u64 ((8 * j : Nat) : Int))) = some (.int .u64 ((b.toNat : Int) * 2 ^ (8 * j))) := by
 rw [p_shl _ _ _ _ _ _ _ (by omega)]
 have h := Hi.byte b j hj
 have e : min ((8 * j : Nat) : Int).toNat IntKind.u64.bits = 8 * j := by
  have : IntKind.u64.bits = 64 := rfl
  omega
 rw [e, wrap_u64 h.1 h.2.1]
theorem word_ok (l : List UInt8) (hl : 8 ≤ l.length) (w : World) : ∃ x : Int, C 82 #[st l] w = some (.int .u64 x, w.drew) ∧ Hi x (fun i => decide (128 ≤ (l.getD i 0).toNat)) := by
 have i0 := str_index (P := Zp) Uz l .i64 0 (by omega)
 have c0 := cv5_159 ((l[0]).toNat : Int)
 rw [wrap_u64 (by omega) (by have := (l[0]).toNat_lt; omega)] at c0
 have i1 := str_index (P := Zp) Uz l .i64 1 (by omega)
 have c1 := cv5_159 ((l[1]).toNat : Int)
 rw [wrap_u64 (by omega) (by have := (l[1]).toNat_lt; omega)] at c1
 have s1 := fun x y => sh_byte l[1] 1 (by omega) 159 x y
 have i2 := str_index (P := Zp) Uz l .i64 2 (by omega)
 have c2 := cv5_159 ((l[2]).toNat : Int)
 rw [wrap_u64 (by omega) (by have := (l[2]).toNat_lt; omega)] at c2
 have s2 := fun x y => sh_byte l[2] 2 (by omega) 159 x y
 have i3 := str_index (P := Zp) Uz l .i64 3 (by omega)
 have c3 := cv5_159 ((l[3]).toNat : Int)
 rw [wrap_u64 (by omega) (by have := (l[3]).toNat_lt; omega)] at c3
 have s3 := fun x y => sh_byte l[3] 3 (by omega) 159 x y
 have i4 := str_index (P := Zp) Uz l .i64 4 (by omega)
 have c4 := cv5_159 ((l[4]).toNat : Int)
 rw [wrap_u64 (by omega) (by have := (l[4]).toNat_lt; omega)] at c4
 have s4 := fun x y => sh_byte l[4] 4 (by omega) 159 x y
 have i5 := str_index (P := Zp) Uz l .i64 5 (by omega)
 have c5 := cv5_159 ((l[5]).toNat : Int)
 rw [wrap_u64 (by omega) (by have := (l[5]).toNat_lt; omega)] at c5
 have s5 := fun x y => sh_byte l[5] 5 (by omega) 159 x y
 have i6 := str_index (P := Zp) Uz l .i64 6 (by omega)
 have c6 := cv5_159 ((l[6]).toNat : Int)
 rw [wrap_u64 (by omega) (by have := (l[6]).toNat_lt; omega)] at c6
 have s6 := fun x y => sh_byte l[6] 6 (by omega) 159 x y
 have i7 := str_index (P := Zp) Uz l .i64 7 (by omega)
 have c7 := cv5_159 ((l[7]).toNat : Int)
 rw [wrap_u64 (by omega) (by have := (l[7]).toNat_lt; omega)] at c7
 have s7 := fun x y => sh_byte l[7] 7 (by omega) 159 x y
 have h := ((((((((Hi.byte l[0] 0 (by omega)).or (Hi.byte l[1] 1 (by omega))).or (Hi.byte l[2] 2 (by omega))).or (Hi.byte l[3] 3 (by omega))).or (Hi.byte l[4] 4 (by omega))).or (Hi.byte l[5] 5 (by omega))).or (Hi.byte l[6] 6 (by omega))).or (Hi.byte l[7] 7 (by omega)))
 refine ⟨_, f82.run rfl ?_, h.eq fun i hi => ?_⟩
 ·simp at s1 s2 s3 s4 s5 s6 s7 i0 i1 i2 i3 i4 i5 i6 i7
  simp [f82, i0, c0, i1, c1, i2, c2, i3, c3, i4, c4, i5, c5, i6, c6, i7, c7, s1, s2, s3, s4, s5, s6, s7, p_or]
 ·rcases (show i = 0 ∨ i = 1 ∨ i = 2 ∨ i = 3 ∨ i = 4 ∨ i = 5 ∨ i = 6 ∨ i = 7 by omega) with rfl | rfl | rfl | rfl | rfl | rfl | rfl | rfl <;> simp [List.getD_eq_getElem?_getD, Yg, (by omega : 0 < l.length), (by omega : 1 < l.length), (by omega : 2 < l.length), (by omega : 3 < l.length), (by omega : 4 < l.length), (by omega : 5 < l.length), (by omega : 6 < l.length), (by omega : 7 < l.length)]
open Go Go.Proofs Go.RowKit Go.Sh.Ev
def firsts : List Nat := List.replicate 128 240 ++ List.replicate 66 241 ++ List.replicate 30 2 ++ [19] ++ List.replicate 12 3 ++ [35, 3, 3] ++ [52, 4, 4, 4, 68] ++ List.replicate 11 241
def fcs : List Value := firsts.map fun (n : Nat) => Vi .u8 n
def accs : List (Nat × Nat) := [(128, 191), (160, 191), (128, 159), (144, 191), (128, 143)] ++ List.replicate 11 (0, 0)
def acs : List Value := accs.flatMap fun x => [Vi .u8 x.1, Vi .u8 x.2]
theorem first_lit : flatD Go.Proofs.YtkghbcadnbojgaaGreatDoor.Rows.laid_unicode_utf8_first = some fcs := by kernel_rfl
theorem acc_lit : flatD Go.Proofs.YtkghbcadnbojgaaGreatDoor.Rows.laid_unicode_utf8_acceptRanges = some acs := by kernel_rfl
structure Ut (w : World) : Prop where
 f : Rd w (some ⟨1, 0, none⟩) fcs
 a : Rd w (some ⟨2, 0, none⟩) acs
theorem Ut.grown {w w' : World} (h : Ut w) (g : w.grownBy w' none) : Ut w' := ⟨h.f.grown g, h.a.grown g⟩
def kinds : List (Nat × Nat × Nat × Nat × Nat) := [(241, 1, 15, 0, 0), (2, 2, 0, 128, 191), (19, 3, 1, 160, 191), (3, 3, 0, 128, 191), (35, 3, 2, 128, 159), (52, 4, 3, 144, 191), (4, 4, 0, 128, 191), (68, 4, 4, 128, 143)]
def kindOf (x : Nat) : Nat × Nat × Nat × Nat × Nat := (kinds.find? fun k => k.1 == x).getD (0, 0, 0, 0, 0)
def lead (c : UInt8) : Nat × Nat × Nat × Nat × Nat := kindOf (firsts.getD c.toNat 0)
theorem firsts_hi : ∀ n, n < 128 → (kinds.map (·.1)).contains (firsts.getD (n + 128) 0) = true := by decide
theorem ar_index {t e : TypeId} {n : Nat} {i : TypeInfo} (ht : Tryz.prog.underlying t = some (.array n e)) (hi : Tryz.prog.info? e = some i) (b o : Nat) (k : IntKind) (j : Nat) (hj : j < n) : Pq Zp (Zj t (.pointer (some ⟨b, o, none⟩)) (.int k j)) = some (.pointer (some ⟨b, o + j * i.size, none⟩)) := by
 have h2 : (j : Int) < n := by omega
 unfold Zj
 simp only [asIntOf, prun_bind, prun_pure, prun_underlying ht, Option.bind_some, Instr.sureAddr]
 have hs : Pq Zp (sizeOf e) = some i.size := by
  unfold sizeOf typeInfo
  simp [prun_bind, hi]
 simp [h2, hs, prun_bind, addL]
theorem ut_first {w : World} (T : Ut w) (c : UInt8) (hc : 128 ≤ c.toNat) : ∃ k ∈ kinds, lead c = k ∧ Pq Zp (Zj 150 (.pointer (some ⟨1, 0, none⟩)) (.int .u8 c.toNat)) = some (.pointer (some ⟨1, c.toNat, none⟩)) ∧ w.cell? ⟨1, c.toNat, none⟩ = some (.int .u8 k.1) := by
 have hb := c.toNat_lt
 have h := firsts_hi (c.toNat - 128) (by omega)
 rw [show c.toNat - 128 + 128 = c.toNat by omega] at h
 have hx : firsts[c.toNat]? = some (firsts.getD c.toNat 0) := by
  have : c.toNat < firsts.length := by rw [show firsts.length = 256 from by decide]; omega
  simp [Yg this]
 obtain ⟨x, hxx⟩ : ∃ x, x = firsts.getD c.toNat 0 := ⟨_, rfl⟩
 rw [← hxx] at h hx
 have hl : lead c = kindOf x := by rw [lead, ← hxx]
 have ix := ar_index (t := 150) Tryz.underlying150 inf5 1 0 .u8 c.toNat (by omega)
 rw [size5, Nat.mul_one, Nat.zero_add] at ix
 have hr := T.f c.toNat (.int .u8 x) (by rw [fcs, List.getElem?_map, hx]; rfl)
 rw [addL, Nat.zero_add] at hr
 have : x = 241 ∨ x = 2 ∨ x = 19 ∨ x = 3 ∨ x = 35 ∨ x = 52 ∨ x = 4 ∨ x = 68 := by simpa [kinds] using h
 refine ⟨kindOf x, ?_, hl, ix, ?_⟩
 ·rcases this with rfl | rfl | rfl | rfl | rfl | rfl | rfl | rfl <;> decide
 ·rcases this with rfl | rfl | rfl | rfl | rfl | rfl | rfl | rfl <;> exact hr
theorem ut_kind {w : World} (T : Ut w) {k : Nat × Nat × Nat × Nat × Nat} (hk : k ∈ kinds) :
  (∀ t x y, Pq Zp (do eqGuard .and t x y (.int .u8 k.1) (.int .u8 7); binOp .and t (.int .u8 k.1) (.int .u8 7)) = some (.int .u8 k.2.1)) ∧
  Pq Zp (convert 5 3 (.int .u8 k.2.1)) = some (.int .i64 k.2.1) ∧
  (∀ t x y, Pq Zp (do eqGuard .shr t x y (.int .u8 k.1) (.int .u64 4); binOp .shr t (.int .u8 k.1) (.int .u64 4)) = some (.int .u8 k.2.2.1)) ∧
  Pq Zp (Zj 153 (.pointer (some ⟨2, 0, none⟩)) (.int .u8 k.2.2.1)) = some (.pointer (some ⟨2, k.2.2.1 * 2, none⟩)) ∧
  rrun Zp (Zl 152 (.pointer (some ⟨2, k.2.2.1 * 2, none⟩))) w = some (.agg #[.int .u8 k.2.2.2.1, .int .u8 k.2.2.2.2]) := by
 have ix : ∀ j, j < 16 → Pq Zp (Zj 153 (.pointer (some ⟨2, 0, none⟩)) (.int .u8 (j : Nat))) = some (.pointer (some ⟨2, j * 2, none⟩)) := fun j hj => by
  have := ar_index (t := 153) Tryz.underlying153 inf152 2 0 .u8 j (by omega)
  rwa [size152, Nat.zero_add] at this
 have ld : ∀ j (x y : Nat), accs[j]? = some (x, y) → rrun Zp (Zl 152 (.pointer (some ⟨2, j * 2, none⟩))) w = some (.agg #[.int .u8 x, .int .u8 y]) := fun j x y h => by
  have h0 : acs[j * 2]? = some (.int .u8 x) ∧ acs[j * 2 + 1]? = some (.int .u8 y) := by
   have hj : j < 16 := (List.getElem?_eq_some_iff.mp h).1
   rcases (show j = 0 ∨ j = 1 ∨ j = 2 ∨ j = 3 ∨ j = 4 ∨ j = 5 ∨ j = 6 ∨ j = 7 ∨ j = 8 ∨ j = 9 ∨ j = 10 ∨ j = 11 ∨ j = 12 ∨ j = 13 ∨ j = 14 ∨ j = 15 by omega) with rfl | rfl | rfl | rfl | rfl | rfl | rfl | rfl | rfl | rfl | rfl | rfl | rfl | rfl | rfl | rfl <;> cases h <;> exact ⟨rfl, rfl⟩
  refine ld152 (a := ⟨2, j * 2, none⟩) ?_ ?_
  ·have := T.a _ _ h0.1
   rw [addL] at this ⊢
   simpa using this
  ·have := T.a _ _ h0.2
   rw [addL] at this ⊢
   simpa using this
 simp only [kinds, List.mem_cons, List.not_mem_nil, or_false] at hk
 rcases hk with rfl | rfl | rfl | rfl | rfl | rfl | rfl | rfl <;> exact ⟨fun t x y => by rw [p_and]; rfl, by kernel_rfl, fun t x y => by rw [p_shr _ _ _ _ _ _ _ (by omega)]; rfl, ix _ (by decide), ld _ _ _ rfl⟩
def goesOn (b : UInt8) : Bool := decide (128 ≤ b.toNat) && decide (b.toNat ≤ 191)
def so (n lo hi : Nat) (r : List UInt8) : Bool := match n, r with
 | 2, a :: _ => decide (lo ≤ a.toNat) && decide (a.toNat ≤ hi)
 | 3, a :: b :: _ => (decide (lo ≤ a.toNat) && decide (a.toNat ≤ hi)) && goesOn b
 | 4, a :: b :: c :: _ => (decide (lo ≤ a.toNat) && decide (a.toNat ≤ hi)) && (goesOn b && goesOn c)
 | _, _ => false
def signOk (k : Nat × Nat × Nat × Nat × Nat) (r : List UInt8) : Bool := so k.2.1 k.2.2.2.1 k.2.2.2.2 r
def vs : Nat → List UInt8 → Bool
 | _, [] => true
 | k + 1, _ :: r => vs k r
 | 0, c :: r => bif decide (c.toNat < 128) then vs 0 r else (signOk (lead c) r && vs ((lead c).2.1 - 1) r)
def valid (l : List UInt8) : Bool := vs 0 l
theorem vs_drop : ∀ (k : Nat) (l : List UInt8), vs k l = vs 0 (l.drop k)
 | 0, l => by simp
 | k + 1, [] => by simp [vs]
 | k + 1, c :: r => by rw [vs, vs_drop k r, List.drop_succ_cons]
theorem vs_asc : ∀ (n : Nat) (l : List UInt8), n ≤ l.length → (∀ i, i < n → (l.getD i 0).toNat < 128) → vs 0 l = vs 0 (l.drop n)
 | 0, l, _, _ => by simp
 | n + 1, [], h, _ => by simp at h
 | n + 1, c :: r, h, ha => by
  have h0 := ha 0 (by omega)
  simp only [List.getD_cons_zero] at h0
  rw [vs, List.drop_succ_cons, ← vs_asc n r (by simpa using h) fun i hi => by simpa using ha (i + 1) (by omega)]
  simp [h0]
theorem vs_lead {c : UInt8} (r : List UInt8) (h : 128 ≤ c.toNat) : vs 0 (c :: r) = (signOk (lead c) r && vs 0 (r.drop ((lead c).2.1 - 1))) := by
 rw [vs, vs_drop ((lead c).2.1 - 1)]
 simp [show ¬ c.toNat < 128 by omega]
theorem vs_byte {c : UInt8} (r : List UInt8) (h : c.toNat < 128) : vs 0 (c :: r) = vs 0 r := by
 rw [vs]
 simp [h]
abbrev top : Int := 9259542123273814144
theorem asc8 {x : Int} {p : Nat → Bool} {l : List UInt8} (h : Hi x p) (h0 : bits .and .u64 x top = 0) (hl : 8 ≤ l.length) (hp : ∀ i, i < 8 → p i = false → (l.getD i 0).toNat < 128) : vs 0 l = vs 0 (l.drop 8) :=
 vs_asc 8 l hl fun i hi => hp i hi (h.none h0 i hi)
theorem drew_grown (w : World) : w.grownBy w.drew none := grown_drew _ _
theorem fast_ok (l : List UInt8) (hl : l.length ≤ 1000000) (w : World) : ∃ l' w', iter (f39.l0 C) [st l] w = some (.exit 2 [st l'] w') ∧ vs 0 l' = vs 0 l ∧ l'.length ≤ l.length ∧ w.grownBy w' none := by
 have key := iter_down (f := f39.l0 C) (fun d ws w1 => ∃ l1 : List UInt8, ws = [st l1] ∧ l1.length = d ∧ vs 0 l1 = vs 0 l ∧ l1.length ≤ l.length ∧ w.grownBy w1 none)
  (fun r => ∃ l' w', r = .exit 2 [st l'] w' ∧ vs 0 l' = vs 0 l ∧ l'.length ≤ l.length ∧ w.grownBy w' none) (by
   rintro d ws w1 ⟨l1, rfl, hd, hv, hle, gr⟩
   have hs : ∀ ty, Pq Zp (Yl #[9] ty #[st l1]) = some (.int .i64 l1.length) := fun ty => str_len Uz ty l1
   by_cases h32 : 32 < l1.length
   ·obtain ⟨x0, c0, y0⟩ := word_ok l1 (by omega) w1.drew
    obtain ⟨x1, c1, y1⟩ := word_ok (l1.drop 8) (by simp; omega) w1.drew.drew
    obtain ⟨x2, c2, y2⟩ := word_ok (l1.drop 16) (by simp; omega) w1.drew.drew.drew
    obtain ⟨x3, c3, y3⟩ := word_ok (l1.drop 24) (by simp; omega) w1.drew.drew.drew.drew
    have s1 := str_from (P := Zp) Uz l1 .i64 8 (by omega)
    have s2 := str_from (P := Zp) Uz l1 .i64 16 (by omega)
    have s3 := str_from (P := Zp) Uz l1 .i64 24 (by omega)
    have s4 := str_from (P := Zp) Uz l1 .i64 32 (by omega)
    have y := (y0.or y1).or (y2.or y3)
    have hlt : (32 : Int) < l1.length := by omega
    have gd : w.grownBy w1.drew.drew.drew.drew.drew none := grown_step (grown_step (grown_step (grown_step (grown_step gr (drew_grown _)) (drew_grown _)) (drew_grown _)) (drew_grown _)) (drew_grown _)
    obtain ⟨X, hX⟩ : ∃ X, X = bits .or .u64 (bits .or .u64 x0 x1) (bits .or .u64 x2 x3) := ⟨_, rfl⟩
    rw [← hX] at y
    have po := fun t a b => p_or (P := Zp) t a b .u64 (bits .or .u64 x0 x1) (bits .or .u64 x2 x3)
    rw [← hX] at po
    rw [show ((8 : Nat) : Int) = 8 from rfl] at s1
    rw [show ((16 : Nat) : Int) = 16 from rfl] at s2
    rw [show ((24 : Nat) : Int) = 24 from rfl] at s3
    rw [show ((32 : Nat) : Int) = 32 from rfl] at s4
    by_cases hz : bits .and .u64 X top = 0
    ·refine .inl ⟨(l1.drop 32).length, _, w1.drew.drew.drew.drew.drew, by simp; omega, ?_, ⟨l1.drop 32, rfl, rfl, ?_, by simp; omega, gd⟩⟩
     ·simp [f39.l0, hs, hlt, c0, c1, c2, c3, s1, s2, s3, s4, po, p_or, p_and, hz, wantedV, pickV, chkThen]
     ·have n := y.none hz
      rw [← hv, asc8 y hz (l := l1) (by omega) (fun i hi hp => by simp at hp; exact hp.1.1)]
      rw [asc8 y hz (l := l1.drop 8) (by simp; omega) (fun i hi hp => by simp at hp; simpa using hp.1.2)]
      rw [Yd, asc8 y hz (l := l1.drop (8 + 8)) (by simp; omega) (fun i hi hp => by simp at hp; simpa using hp.2.1)]
      rw [Yd, asc8 y hz (l := l1.drop (8 + 8 + 8)) (by simp; omega) (fun i hi hp => by simp at hp; simpa using hp.2.2)]
      rw [Yd]
    ·refine .inr ⟨.exit 2 [st l1] w1.drew.drew.drew.drew.drew, ?_, ⟨l1, _, rfl, hv, hle, gd⟩, by simp⟩
     simp [f39.l0, hs, hlt, c0, c1, c2, c3, s1, s2, s3, s4, po, p_or, p_and, hz, wantedV, pickV, chkThen]
   ·refine .inr ⟨.exit 2 [st l1] w1.drew, ?_, ⟨l1, _, rfl, hv, hle, grown_step gr (drew_grown _)⟩, by simp⟩
    have hlt : ¬ (32 : Int) < l1.length := by omega
    simp [f39.l0, hs, hlt, wantedV, pickV, chkThen]) l.length _ w ⟨l, rfl, rfl, rfl, Nat.le_refl _, grown_refl _ _⟩
 obtain ⟨r, h1, l', w', rfl, h2, h3, h4⟩ := key
 exact ⟨l', w', h1, h2, h3, h4⟩
theorem alloc152 (w : World) : erun Zp (Za 152 true (.tuple #[])) w = some (.pointer (some ⟨w.heap.size, 0, none⟩), w.alloc (.cells #[.int .u8 0, .int .u8 0] 152)) := id (by kernel_rfl)
theorem lay152 (x y : Nat) (w : World) : ∃ w', erun Zp (Zs 152 (.pointer (some ⟨w.heap.size, 0, none⟩)) (.agg #[.int .u8 x, .int .u8 y])) (w.alloc (.cells #[.int .u8 0, .int .u8 0] 152)) = some ((), w') ∧ Blk w' w.heap.size 152 [.int .u8 x, .int .u8 y] ∧ w.grownBy w' none := by
 have b := Blk.new w 152 [.int .u8 0, .int .u8 0]
 have g1 := World.grownBy_alloc w (.cells #[.int .u8 0, .int .u8 0] 152) none
 obtain ⟨w2, h2, b2, g2⟩ := b.storeAll (P := Zp) (t := 152) inf152 (o := 0) (v := .agg #[.int .u8 x, .int .u8 y]) (vs := [.int .u8 x, .int .u8 y]) (cs' := [.int .u8 x, .int .u8 y]) rfl (by rw [size152]; rfl) (by simp) (by simp [Value.oneCell']) (by simp)
 exact ⟨w2, h2, b2, grown_trans g1 g2 (fun k hk => by cases hk; exact Nat.le_refl _)⟩
theorem round_asc {c : UInt8} {r : List UInt8} (hc : c.toNat < 128) (hl : r.length ≤ 900000) (w : World) : ∃ l' w', f39.l1 C [st (c :: r)] w = some (.norm [st l'] w') ∧ vs 0 l' = vs 0 (c :: r) ∧ l'.length ≤ r.length ∧ w.grownBy w' none := by
 have hs : ∀ (l : List UInt8) ty, Pq Zp (Yl #[9] ty #[st l]) = some (.int .i64 l.length) := fun l ty => str_len Uz ty l
 have ix := str_index (P := Zp) Uz (c :: r) .i64 0 (by simp)
 have f1 := str_from (P := Zp) Uz (c :: r) .i64 1 (by simp)
 rw [show ((0 : Nat) : Int) = 0 from rfl] at ix
 rw [show ((1 : Nat) : Int) = 1 from rfl] at f1
 simp only [List.getElem_cons_zero, List.drop_succ_cons, List.drop_zero] at ix f1
 have h0 : (0 : Int) < ((c :: r).length : Int) := by simp
 have hc' : (c.toNat : Int) < 128 := by omega
 have hv := vs_byte r hc
 by_cases h8 : 8 < r.length
 ·have h8' : (8 : Int) < r.length := by omega
  obtain ⟨x0, c0, y0⟩ := word_ok r (by omega) w
  have f8 := str_from (P := Zp) Uz r .i64 8 (by omega)
  rw [show ((8 : Nat) : Int) = 8 from rfl] at f8
  by_cases hz : bits .and .u64 x0 top = 0
  ·have hv8 := asc8 y0 hz (l := r) (by omega) (fun i hi hp => by simpa using hp)
   have hql : (r.drop 8).length ≤ r.length := by simp
   obtain ⟨q, hq⟩ : ∃ q, q = r.drop 8 := ⟨_, rfl⟩
   rw [← hq] at f8 hv8 hql
   by_cases h16 : 16 < q.length
   ·have h16' : (16 : Int) < (q.length : Int) := by omega
    obtain ⟨x1, c1, y1⟩ := word_ok q (by omega) w.drew.drew
    obtain ⟨x2, c2, y2⟩ := word_ok (q.drop 8) (by rw [Ye]; omega) w.drew.drew.drew
    have f16 := str_from (P := Zp) Uz q .i64 8 (by omega)
    have f24 := str_from (P := Zp) Uz q .i64 16 (by omega)
    rw [show ((8 : Nat) : Int) = 8 from rfl] at f16
    rw [show ((16 : Nat) : Int) = 16 from rfl] at f24
    have y := y1.or y2
    obtain ⟨l', w', hi, v', le', g'⟩ := fast_ok (q.drop 16) (by simp; omega) w.drew.drew.drew.drew
    have gd : w.grownBy w.drew.drew.drew.drew none := grown_step (grown_step (grown_step (drew_grown _) (drew_grown _)) (drew_grown _)) (drew_grown _)
    by_cases hy : bits .and .u64 (bits .or .u64 x1 x2) top = 0
    ·refine ⟨l', w', ?_, ?_, ?_, grown_step gd g'⟩
     ·simp [f39.l1, hs, h0, ix, hc', f1, h8', c0, p_and, hz, f8, h16', c1, c2, f16, f24, p_or, hy, hi, wantedV, pickV, chkThen]
     ·rw [v', hv, hv8, asc8 y hy (l := q) (by omega) (fun i hi hp => by simp at hp; simpa using hp.1)]
      rw [asc8 y hy (l := q.drop 8) (by rw [Ye]; omega) (fun i hi hp => by simp at hp; simpa using hp.2), Yd (l := q)]
     ·simp only [Ye] at le'
      omega
    ·refine ⟨q, w.drew.drew.drew.drew, ?_, by rw [hv, hv8], hql, gd⟩
     simp [f39.l1, hs, h0, ix, hc', f1, h8', c0, p_and, hz, f8, h16', c1, c2, f16, f24, p_or, hy, hi, wantedV, pickV, chkThen]
   ·have h16' : ¬ (16 : Int) < (q.length : Int) := by omega
    refine ⟨q, w.drew.drew, ?_, by rw [hv, hv8], hql, grown_step (drew_grown _) (drew_grown _)⟩
    simp [f39.l1, hs, h0, ix, hc', f1, h8', c0, p_and, hz, f8, h16', wantedV, pickV, chkThen]
  ·refine ⟨r, w.drew, ?_, hv.symm, Nat.le_refl _, drew_grown _⟩
   simp [f39.l1, hs, h0, ix, hc', f1, h8', c0, p_and, hz]
 ·have h8' : ¬ (8 : Int) < r.length := by omega
  refine ⟨r, w, ?_, hv.symm, Nat.le_refl _, grown_refl _ _⟩
  simp [f39.l1, hs, h0, ix, hc', f1, h8']
theorem round_hi {c : UInt8} {r : List UInt8} (hc : 128 ≤ c.toNat) (hl : r.length ≤ 900000) {w : World} (T : Ut w) : (∃ l' w', f39.l1 C [st (c :: r)] w = some (.norm [st l'] w') ∧ vs 0 l' = vs 0 (c :: r) ∧ l'.length ≤ r.length ∧ w.grownBy w' none) ∨
  ∃ w', f39.l1 C [st (c :: r)] w = some (.ret [.bool false] w') ∧ vs 0 (c :: r) = false ∧ w.grownBy w' none := by
 have hs : ∀ (l : List UInt8) ty, Pq Zp (Yl #[9] ty #[st l]) = some (.int .i64 l.length) := fun l ty => str_len Uz ty l
 have ix := str_index (P := Zp) Uz (c :: r) .i64 0 (by simp)
 rw [show ((0 : Nat) : Int) = 0 from rfl] at ix
 simp only [List.getElem_cons_zero] at ix
 have h0 : (0 : Int) < ((c :: r).length : Int) := by simp
 have hc' : ¬ (c.toNat : Int) < 128 := by omega
 obtain ⟨k, hk, hlead, ix1, c1⟩ := ut_first T c hc
 obtain ⟨a7, cv, a4, ix2, l2⟩ := ut_kind T hk
 obtain ⟨w2, h2, b2, g2⟩ := lay152 k.2.2.2.1 k.2.2.2.2 w
 have hv := vs_lead r hc
 rw [hlead] at hv
 have p0 := (Blk.cell_eq b2 0 rfl)
 have p1 := (Blk.cell_eq b2 1 rfl)
 obtain ⟨n, lo, hi, hn, hlo, hhi⟩ : ∃ n lo hi, n = k.2.1 ∧ lo = k.2.2.2.1 ∧ hi = k.2.2.2.2 := ⟨_, _, _, rfl, rfl, rfl⟩
 have hn4 : n = 1 ∨ n = 2 ∨ n = 3 ∨ n = 4 := by
  rw [hn]
  simp only [kinds, List.mem_cons, List.not_mem_nil, or_false] at hk
  rcases hk with rfl | rfl | rfl | rfl | rfl | rfl | rfl | rfl <;> simp
 have hso : signOk k r = so n lo hi r := by rw [hn, hlo, hhi]; rfl
 rw [hso] at hv
 rw [← hn] at a7 cv hv
 rw [← hlo, ← hhi] at l2 h2
 rw [← hlo] at p0
 rw [← hhi] at p1
 have gd : w.grownBy w2.drew none := grown_step g2 (drew_grown _)
 rcases hn4 with e | e | e | e <;> rw [e] at a7 cv hv
 ·have cv' : Pq Zp (convert 5 3 (.int .u8 1)) = some (.int .i64 1) := cv
  refine .inr ⟨w2, ?_, by rw [hv]; simp [so], g2⟩
  simp [f39.l1, hs, ix, hc', ix1, c1, a7, cv', a4, ix2, l2, alloc152, h2]
 ·have cv' : Pq Zp (convert 5 3 (.int .u8 2)) = some (.int .i64 2) := cv
  cases r with
  | nil =>
   refine .inr ⟨w2.drew, ?_, by rw [hv]; simp [so], gd⟩
   obtain ⟨L, hL, hs1⟩ : ∃ L : Int, L = ((c :: []).length : Int) ∧ ∀ ty, Pq Zp (Yl #[9] ty #[st (c :: [])]) = some (.int .i64 L) := ⟨_, rfl, fun ty => hs _ ty⟩
   have hL0 : 0 < L := by rw [hL]; simp; try omega
   have hLn :  L < 2 := by rw [hL]; simp; try omega
   simp [f39.l1, hs1, hL0, hLn, ix, hc', ix1, c1, a7, cv', a4, ix2, l2, alloc152, h2]
  | cons a r =>
   have i1 := str_index (P := Zp) Uz (c :: a :: r) .i64 1 (by simp)
   rw [show ((1 : Nat) : Int) = 1 from rfl] at i1
   simp only [List.getElem_cons_succ, List.getElem_cons_zero] at i1
   obtain ⟨L, hL, hs1⟩ : ∃ L : Int, L = ((c :: a :: r).length : Int) ∧ ∀ ty, Pq Zp (Yl #[9] ty #[st (c :: a :: r)]) = some (.int .i64 L) := ⟨_, rfl, fun ty => hs _ ty⟩
   have hL0 : 0 < L := by rw [hL]; simp; try omega
   have hLn : ¬ L < 2 := by rw [hL]; simp; try omega
   have f2 := str_from (P := Zp) Uz (c :: a :: r) .i64 2 (by simp)
   rw [show ((2 : Nat) : Int) = 2 from rfl] at f2
   simp only [List.drop_succ_cons, List.drop_zero] at f2
   by_cases q0 : (a.toNat : Int) < lo
   ·refine .inr ⟨w2.drew, ?_, by rw [hv]; simp [so, goesOn]; omega, gd⟩
    simp [f39.l1, hs1, hL0, hLn, ix, hc', ix1, c1, a7, cv', a4, ix2, l2, alloc152, h2, i1, addL, p0, p1, q0]
   by_cases q1 : (hi : Int) < a.toNat
   ·refine .inr ⟨w2.drew, ?_, by rw [hv]; simp [so, goesOn]; omega, gd⟩
    simp [f39.l1, hs1, hL0, hLn, ix, hc', ix1, c1, a7, cv', a4, ix2, l2, alloc152, h2, i1, addL, p0, p1, q0, q1]
   ·refine .inl ⟨r, w2.drew, ?_, ?_, by simp, gd⟩
    ·simp [f39.l1, hs1, hL0, hLn, ix, hc', ix1, c1, a7, cv', a4, ix2, l2, alloc152, h2, i1, addL, p0, p1, q0, q1, f2]
    ·rw [hv]
     have z0 : lo ≤ a.toNat := by omega
     have z1 : a.toNat ≤ hi := by omega
     simp [so, goesOn, z0, z1]
 ·have cv' : Pq Zp (convert 5 3 (.int .u8 3)) = some (.int .i64 3) := cv
  cases r with
  | nil =>
   refine .inr ⟨w2.drew, ?_, by rw [hv]; simp [so], gd⟩
   obtain ⟨L, hL, hs1⟩ : ∃ L : Int, L = ((c :: []).length : Int) ∧ ∀ ty, Pq Zp (Yl #[9] ty #[st (c :: [])]) = some (.int .i64 L) := ⟨_, rfl, fun ty => hs _ ty⟩
   have hL0 : 0 < L := by rw [hL]; simp; try omega
   have hLn :  L < 3 := by rw [hL]; simp; try omega
   simp [f39.l1, hs1, hL0, hLn, ix, hc', ix1, c1, a7, cv', a4, ix2, l2, alloc152, h2]
  | cons a r =>
   cases r with
   | nil =>
    refine .inr ⟨w2.drew, ?_, by rw [hv]; simp [so], gd⟩
    obtain ⟨L, hL, hs1⟩ : ∃ L : Int, L = ((c :: a :: []).length : Int) ∧ ∀ ty, Pq Zp (Yl #[9] ty #[st (c :: a :: [])]) = some (.int .i64 L) := ⟨_, rfl, fun ty => hs _ ty⟩
    have hL0 : 0 < L := by rw [hL]; simp; try omega
    have hLn :  L < 3 := by rw [hL]; simp; try omega
    simp [f39.l1, hs1, hL0, hLn, ix, hc', ix1, c1, a7, cv', a4, ix2, l2, alloc152, h2]
   | cons b r =>
    have i1 := str_index (P := Zp) Uz (c :: a :: b :: r) .i64 1 (by simp)
    rw [show ((1 : Nat) : Int) = 1 from rfl] at i1
    have i2 := str_index (P := Zp) Uz (c :: a :: b :: r) .i64 2 (by simp)
    rw [show ((2 : Nat) : Int) = 2 from rfl] at i2
    simp only [List.getElem_cons_succ, List.getElem_cons_zero] at i1 i2
    obtain ⟨L, hL, hs1⟩ : ∃ L : Int, L = ((c :: a :: b :: r).length : Int) ∧ ∀ ty, Pq Zp (Yl #[9] ty #[st (c :: a :: b :: r)]) = some (.int .i64 L) := ⟨_, rfl, fun ty => hs _ ty⟩
    have hL0 : 0 < L := by rw [hL]; simp; try omega
    have hLn : ¬ L < 3 := by rw [hL]; simp; try omega
    have f2 := str_from (P := Zp) Uz (c :: a :: b :: r) .i64 3 (by simp)
    rw [show ((3 : Nat) : Int) = 3 from rfl] at f2
    simp only [List.drop_succ_cons, List.drop_zero] at f2
    by_cases q0 : (a.toNat : Int) < lo
    ·refine .inr ⟨w2.drew, ?_, by rw [hv]; simp [so, goesOn]; omega, gd⟩
     simp [f39.l1, hs1, hL0, hLn, ix, hc', ix1, c1, a7, cv', a4, ix2, l2, alloc152, h2, i1, i2, addL, p0, p1, q0]
    by_cases q1 : (hi : Int) < a.toNat
    ·refine .inr ⟨w2.drew, ?_, by rw [hv]; simp [so, goesOn]; omega, gd⟩
     simp [f39.l1, hs1, hL0, hLn, ix, hc', ix1, c1, a7, cv', a4, ix2, l2, alloc152, h2, i1, i2, addL, p0, p1, q0, q1]
    by_cases q2 : (b.toNat : Int) < 128
    ·refine .inr ⟨w2.drew, ?_, by rw [hv]; simp [so, goesOn]; omega, gd⟩
     simp [f39.l1, hs1, hL0, hLn, ix, hc', ix1, c1, a7, cv', a4, ix2, l2, alloc152, h2, i1, i2, addL, p0, p1, q0, q1, q2]
    by_cases q3 : (191 : Int) < b.toNat
    ·refine .inr ⟨w2.drew, ?_, by rw [hv]; simp [so, goesOn]; omega, gd⟩
     simp [f39.l1, hs1, hL0, hLn, ix, hc', ix1, c1, a7, cv', a4, ix2, l2, alloc152, h2, i1, i2, addL, p0, p1, q0, q1, q2, q3]
    ·refine .inl ⟨r, w2.drew, ?_, ?_, by simp; omega, gd⟩
     ·simp [f39.l1, hs1, hL0, hLn, ix, hc', ix1, c1, a7, cv', a4, ix2, l2, alloc152, h2, i1, i2, addL, p0, p1, q0, q1, q2, q3, f2]
     ·rw [hv]
      have z0 : lo ≤ a.toNat := by omega
      have z1 : a.toNat ≤ hi := by omega
      have z2 : 128 ≤ b.toNat := by omega
      have z3 : b.toNat ≤ 191 := by omega
      simp [so, goesOn, z0, z1, z2, z3]
 ·have cv' : Pq Zp (convert 5 3 (.int .u8 4)) = some (.int .i64 4) := cv
  cases r with
  | nil =>
   refine .inr ⟨w2.drew, ?_, by rw [hv]; simp [so], gd⟩
   obtain ⟨L, hL, hs1⟩ : ∃ L : Int, L = ((c :: []).length : Int) ∧ ∀ ty, Pq Zp (Yl #[9] ty #[st (c :: [])]) = some (.int .i64 L) := ⟨_, rfl, fun ty => hs _ ty⟩
   have hL0 : 0 < L := by rw [hL]; simp; try omega
   have hLn :  L < 4 := by rw [hL]; simp; try omega
   simp [f39.l1, hs1, hL0, hLn, ix, hc', ix1, c1, a7, cv', a4, ix2, l2, alloc152, h2]
  | cons a r =>
   cases r with
   | nil =>
    refine .inr ⟨w2.drew, ?_, by rw [hv]; simp [so], gd⟩
    obtain ⟨L, hL, hs1⟩ : ∃ L : Int, L = ((c :: a :: []).length : Int) ∧ ∀ ty, Pq Zp (Yl #[9] ty #[st (c :: a :: [])]) = some (.int .i64 L) := ⟨_, rfl, fun ty => hs _ ty⟩
    have hL0 : 0 < L := by rw [hL]; simp; try omega
    have hLn :  L < 4 := by rw [hL]; simp; try omega
    simp [f39.l1, hs1, hL0, hLn, ix, hc', ix1, c1, a7, cv', a4, ix2, l2, alloc152, h2]
   | cons b r =>
    cases r with
    | nil =>
     refine .inr ⟨w2.drew, ?_, by rw [hv]; simp [so], gd⟩
     obtain ⟨L, hL, hs1⟩ : ∃ L : Int, L = ((c :: a :: b :: []).length : Int) ∧ ∀ ty, Pq Zp (Yl #[9] ty #[st (c :: a :: b :: [])]) = some (.int .i64 L) := ⟨_, rfl, fun ty => hs _ ty⟩
     have hL0 : 0 < L := by rw [hL]; simp; try omega
     have hLn :  L < 4 := by rw [hL]; simp; try omega
     simp [f39.l1, hs1, hL0, hLn, ix, hc', ix1, c1, a7, cv', a4, ix2, l2, alloc152, h2]
    | cons d r =>
     have i1 := str_index (P := Zp) Uz (c :: a :: b :: d :: r) .i64 1 (by simp)
     rw [show ((1 : Nat) : Int) = 1 from rfl] at i1
     have i2 := str_index (P := Zp) Uz (c :: a :: b :: d :: r) .i64 2 (by simp)
     rw [show ((2 : Nat) : Int) = 2 from rfl] at i2
     have i3 := str_index (P := Zp) Uz (c :: a :: b :: d :: r) .i64 3 (by simp)
     rw [show ((3 : Nat) : Int) = 3 from rfl] at i3
     simp only [List.getElem_cons_succ, List.getElem_cons_zero] at i1 i2 i3
     obtain ⟨L, hL, hs1⟩ : ∃ L : Int, L = ((c :: a :: b :: d :: r).length : Int) ∧ ∀ ty, Pq Zp (Yl #[9] ty #[st (c :: a :: b :: d :: r)]) = some (.int .i64 L) := ⟨_, rfl, fun ty => hs _ ty⟩
     have hL0 : 0 < L := by rw [hL]; simp; try omega
     have hLn : ¬ L < 4 := by rw [hL]; simp; try omega
     have f2 := str_from (P := Zp) Uz (c :: a :: b :: d :: r) .i64 4 (by simp)
     rw [show ((4 : Nat) : Int) = 4 from rfl] at f2
     simp only [List.drop_succ_cons, List.drop_zero] at f2
     by_cases q0 : (a.toNat : Int) < lo
     ·refine .inr ⟨w2.drew, ?_, by rw [hv]; simp [so, goesOn]; omega, gd⟩
      simp [f39.l1, hs1, hL0, hLn, ix, hc', ix1, c1, a7, cv', a4, ix2, l2, alloc152, h2, i1, i2, i3, addL, p0, p1, q0]
     by_cases q1 : (hi : Int) < a.toNat
     ·refine .inr ⟨w2.drew, ?_, by rw [hv]; simp [so, goesOn]; omega, gd⟩
      simp [f39.l1, hs1, hL0, hLn, ix, hc', ix1, c1, a7, cv', a4, ix2, l2, alloc152, h2, i1, i2, i3, addL, p0, p1, q0, q1]
     by_cases q2 : (b.toNat : Int) < 128
     ·refine .inr ⟨w2.drew, ?_, by rw [hv]; simp [so, goesOn]; omega, gd⟩
      simp [f39.l1, hs1, hL0, hLn, ix, hc', ix1, c1, a7, cv', a4, ix2, l2, alloc152, h2, i1, i2, i3, addL, p0, p1, q0, q1, q2]
     by_cases q3 : (191 : Int) < b.toNat
     ·refine .inr ⟨w2.drew, ?_, by rw [hv]; simp [so, goesOn]; omega, gd⟩
      simp [f39.l1, hs1, hL0, hLn, ix, hc', ix1, c1, a7, cv', a4, ix2, l2, alloc152, h2, i1, i2, i3, addL, p0, p1, q0, q1, q2, q3]
     by_cases q4 : (d.toNat : Int) < 128
     ·refine .inr ⟨w2.drew, ?_, by rw [hv]; simp [so, goesOn]; omega, gd⟩
      simp [f39.l1, hs1, hL0, hLn, ix, hc', ix1, c1, a7, cv', a4, ix2, l2, alloc152, h2, i1, i2, i3, addL, p0, p1, q0, q1, q2, q3, q4]
     by_cases q5 : (191 : Int) < d.toNat
     ·refine .inr ⟨w2.drew, ?_, by rw [hv]; simp [so, goesOn]; omega, gd⟩
      simp [f39.l1, hs1, hL0, hLn, ix, hc', ix1, c1, a7, cv', a4, ix2, l2, alloc152, h2, i1, i2, i3, addL, p0, p1, q0, q1, q2, q3, q4, q5]
     ·refine .inl ⟨r, w2.drew, ?_, ?_, by simp; omega, gd⟩
      ·simp [f39.l1, hs1, hL0, hLn, ix, hc', ix1, c1, a7, cv', a4, ix2, l2, alloc152, h2, i1, i2, i3, addL, p0, p1, q0, q1, q2, q3, q4, q5, f2]
      ·rw [hv]
       have z0 : lo ≤ a.toNat := by omega
       have z1 : a.toNat ≤ hi := by omega
       have z2 : 128 ≤ b.toNat := by omega
       have z3 : b.toNat ≤ 191 := by omega
       have z4 : 128 ≤ d.toNat := by omega
       have z5 : d.toNat ≤ 191 := by omega
       simp [so, goesOn, z0, z1, z2, z3, z4, z5]
theorem valid_ok {w : World} (T : Ut w) (l : List UInt8) (hl : l.length ≤ 900000) : ∃ w', C 39 #[st l] w = some (.bool (valid l), w') ∧ w.grownBy w' none := by
 have key := iter_down (f := f39.l1 C) (fun d ws w1 => ∃ l1 : List UInt8, ws = [st l1] ∧ l1.length = d ∧ vs 0 l1 = vs 0 l ∧ l1.length ≤ l.length ∧ w.grownBy w1 none)
  (fun r => ∃ w', ((r = .exit 0 [] w' ∧ vs 0 l = true) ∨ (r = .ret [.bool false] w' ∧ vs 0 l = false)) ∧ w.grownBy w' none) (by
   rintro d ws w1 ⟨l1, rfl, hd, hv, hle, gr⟩
   cases l1 with
   | nil =>
    refine .inr ⟨.exit 0 [] w1, ?_, ⟨w1, .inl ⟨rfl, by rw [← hv]; rfl⟩, gr⟩, by simp⟩
    have hs := str_len (P := Zp) Uz 3 []
    simp [f39.l1, hs]
   | cons c r =>
    have hr : r.length ≤ 900000 := by simp at hle; omega
    by_cases hc : c.toNat < 128
    ·obtain ⟨l', w', h1, h2, h3, g'⟩ := round_asc hc hr w1
     exact .inl ⟨l'.length, _, w', by simp at hd; omega, h1, ⟨l', rfl, rfl, h2.trans hv, by simp at hle; omega, grown_step gr g'⟩⟩
    ·rcases round_hi (c := c) (r := r) (by omega) hr (T.grown gr) with ⟨l', w', h1, h2, h3, g'⟩ | ⟨w', h1, h2, g'⟩
     ·exact .inl ⟨l'.length, _, w', by simp at hd; omega, h1, ⟨l', rfl, rfl, h2.trans hv, by simp at hle; omega, grown_step gr g'⟩⟩
     ·exact .inr ⟨_, h1, ⟨w', .inr ⟨rfl, by rw [← hv, h2]⟩, grown_step gr g'⟩, by simp⟩) l.length _ w ⟨l, rfl, rfl, rfl, Nat.le_refl _, grown_refl _ _⟩
 obtain ⟨r, h1, w', h2, h3⟩ := key
 refine ⟨w', f39.run rfl ?_, h3⟩
 rcases h2 with ⟨rfl, h2⟩ | ⟨rfl, h2⟩ <;> simp [f39, h1, h2, valid]
def evCode (ahead : List Ev) (e : Ev) (day : Int) : Int :=
 if isName e.s = false then 193 else if e.i < 0 ∨ e.o ≤ e.i ∨ day ≤ e.o then 194 else if fadeMay ahead e = false then 195 else if 100 < e.n.length then 191 else if valid e.n = false then 192 else 0
def Good (ahead : List Ev) : Prop := ahead.length ≤ 1000000 ∧ ∀ x ∈ ahead, x.mid ∧ 0 ≤ x.f ∧ x.f ≤ 100
theorem event_ok {w : World} (T : Ut w) {A : Option Addr} {c : Nat} {ahead : List Ev} {e : Ev} (hr : Rd w A (ahead.flatMap Ev.cs)) (hg : Good ahead) (day : Int) (hd : day ≤ 100000000) (hs : e.s.length ≤ 9223372036854775807) (hn : e.n.length ≤ 9223372036854775807) :
  ∃ w', C 40 #[.slice A ahead.length c, e.v, .int .i64 day] w = some (.int .i64 (evCode ahead e day), w') ∧ w.grownBy w' none := by
 obtain ⟨w1, hw1⟩ : ∃ w1, w1 = w.alloc (.cells #[st e.s, .int .i64 e.i, .int .i64 e.o, .int .i64 e.f, st e.n] 51) := ⟨_, rfl⟩
 have b : Blk w1 w.heap.size 51 e.cs := hw1 ▸ Blk.new w 51 e.cs
 have g1 : w.grownBy w1 none := hw1 ▸ World.grownBy_alloc w _ none
 have c0 := b.cell_eq 0 rfl
 have c1 := b.cell_eq 1 rfl
 have c2 := b.cell_eq 2 rfl
 have bx : erun Zp (Instr.box 51 e.v) w = some (.pointer (some ⟨w.heap.size, 0, none⟩), w1) := by rw [hw1]; rfl
 have lb := ev_blk b
 have nm := isName_ok e.s hs w1
 cases z0 : isName e.s with
 | false =>
  rw [z0] at nm
  refine ⟨w1, f40.run rfl ?_, g1⟩
  simp only [Ev.v] at bx ⊢
  simp [f40, bx, addL, c0, nm, evCode, z0]
 | true =>
  rw [z0] at nm
  by_cases z1 : e.i < 0
  ·refine ⟨w1, f40.run rfl ?_, g1⟩
   simp only [Ev.v] at bx ⊢
   simp [f40, bx, addL, c0, nm, c1, evCode, z0, z1]
  by_cases z2 : e.o ≤ e.i
  ·refine ⟨w1, f40.run rfl ?_, g1⟩
   simp only [Ev.v] at bx ⊢
   simp [f40, bx, addL, c0, nm, c1, c2, evCode, z0, z1, z2]
  by_cases z3 : day ≤ e.o
  ·refine ⟨w1, f40.run rfl ?_, g1⟩
   simp only [Ev.v] at bx ⊢
   simp [f40, bx, addL, c0, nm, c1, c2, evCode, z0, z1, z2, z3]
  obtain ⟨w2, h2, g2⟩ := fades_ok (c := c) (e := e) (hr.grown g1) hg.1 ⟨by omega, by omega, by omega⟩ hg.2
  have G2 := grown_trans g1 g2 (by simp)
  have hz : ¬ (e.i < 0 ∨ e.o ≤ e.i ∨ day ≤ e.o) := by omega
  have b2 : Blk w2 w.heap.size 51 e.cs := Blk.grown b g2 (by simp)
  have c4 := b2.cell_eq 4 rfl
  have hl : ∀ ty, Pq Zp (Yl #[9] ty #[st e.n]) = some (.int .i64 e.n.length) := fun ty => str_len Uz ty e.n
  cases z4 : fadeMay ahead e with
  | false =>
   rw [z4] at h2
   refine ⟨w2, f40.run rfl ?_, G2⟩
   simp only [Ev.v] at bx lb h2 ⊢
   simp [f40, bx, addL, c0, nm, c1, c2, lb, h2, evCode, z0, z1, z2, z3, z4]
  | true =>
   rw [z4] at h2
   by_cases z5 : 100 < e.n.length
   ·refine ⟨w2, f40.run rfl ?_, G2⟩
    have z5' : (100 : Int) < e.n.length := by omega
    simp only [Ev.v] at bx lb h2 ⊢
    simp [f40, bx, addL, c0, nm, c1, c2, lb, h2, c4, hl, evCode, z0, z1, z2, z3, z4, z5, z5']
   ·obtain ⟨w3, h3, g3⟩ := valid_ok (T.grown G2) e.n (by omega)
    have z5' : ¬ (100 : Int) < e.n.length := by omega
    refine ⟨w3, f40.run rfl ?_, grown_trans G2 g3 (by simp)⟩
    cases z6 : valid e.n <;> rw [z6] at h3 <;> simp only [Ev.v] at bx lb h2 ⊢ <;> simp [f40, bx, addL, c0, nm, c1, c2, lb, h2, c4, hl, h3, evCode, z0, z1, z2, z3, z4, z5, z5', z6]
end Go.Sh.YtkghbcadnbojgaaGreatDoor
namespace Go.Sh
open Go
noncomputable def handleV (P : Program) (name : List UInt8) : Value :=
 .iface (((P.cutTypes.find? (·.1 == "internal/reflectlite.rtype")).map (·.2)).getD 0) (.agg #[typeHandle P (((List.range P.types.size).find? fun t => P.rowNamed t name).getD 0)])
noncomputable def handled (P : Program) (os : Os) (l : List (Nat × Value)) : World :=
 l.foldl (fun w x => { w with heap := w.heap.modify x.1 fun
   | .cells _ t frozen => .cells #[x.2] t frozen
   | o => o }) (World.holding P os ⟨#[], #[], []⟩)
theorem handled_os (P : Program) (os : Os) (l : List (Nat × Value)) : (handled P os l).os = os := by
 have key : ∀ (l : List (Nat × Value)) (w : World), (l.foldl (fun w x => { w with heap := w.heap.modify x.1 fun
   | .cells _ t frozen => .cells #[x.2] t frozen
   | o => o }) w).os = w.os := by
  intro l
  induction l with
  | nil => intro w; rfl
  | cons x r ih => intro w; rw [List.foldl_cons, ih]
 exact key l _
theorem laidMet_lay {P : Program} {w0 : World} {laid : List (String × DataW Unit)} (hf : w0.layFits P laid [] = true) (hi : w0.layIfaces P laid (w0.layVars P laid) = true) : laidMet P laid (w0.layVars P laid) := by
 have e1 : (laid.filter fun x => (laid.map (·.1)).contains x.1) = laid := List.filter_eq_self.2 fun x hx => List.contains_iff_mem.2 (List.mem_map.2 ⟨x, hx, rfl⟩)
 have e2 : (laid.filter fun x => !(laid.map (·.1)).contains x.1) = [] := List.filter_eq_nil_iff.2 fun x hx => by rw [List.contains_iff_mem.2 (List.mem_map.2 ⟨x, hx, rfl⟩)]; simp
 exact laidMet_layVars (w0 := w0) (laid.map (·.1)) [] (by rw [e1]) (by rw [e1]; exact hf) (by rw [e1]; exact hi) (by rw [e2]; exact LaidIn.none)
end Go.Sh
