/- The library's lock in this dump: its numbers, and what Lock and Unlock answer where nobody else is. No condition. -/
import Derived.Test.YtodkllcibbidoaaDoorProg
import Derived.KernelRfl
import Derived.Conc.MuLone
import Derived.Lib.SlBytesConst
import Derived.DataElems
import Derived.Lib.MakeNoZero
import Derived.Laws.Externs
import Derived.Lib.ConvBytes
import Derived.Test.YtodkllcibbidoaaDoorRQ1
import Derived.Test.YtodkllcibbidoaaDoorRQ2
namespace Go.Sh.YtodkllcibbidoaaDoor
open Go Go.Proofs
set_option maxRecDepth 100000
abbrev muLink : Go.Conc.Locks.MuLink := { lock := 24, unlock := 25, ilock := 33, iunlock := 34, lockSlow := 45, unlockSlow := 48, disable := 41, enable := 43, acquire := 44, relMerge := 46, cas32 := 42, add32 := 47, tMutex := 68, tIMutex := 66, tPMutex := 79, tPIMutex := 93, tPI32 := 95, tUP := 97, tNoCopy := 63, tU32 := 64 }
theorem muLib : Go.Conc.Locks.MuLib Tryd.prog muLink := ⟨Tryd.func24, Tryd.func25, Tryd.func33, Tryd.func34, Tryd.func41, Tryd.func43, Tryd.func44, Tryd.func46, Tryd.func42, Tryd.func47, Tryd.underlying66, Tryd.runUnderlying66, Tryd.sizeOf66, Tryd.isAgg66, Tryd.zeroValue66, Tryd.underlying68, Tryd.runUnderlying68, Tryd.sizeOf68, Tryd.isAgg68, Tryd.zeroValue68, Tryd.underlying79, Tryd.runUnderlying79, Tryd.sizeOf79, Tryd.isAgg79, Tryd.zeroValue79, Tryd.underlying93, Tryd.runUnderlying93, Tryd.sizeOf93, Tryd.isAgg93, Tryd.zeroValue93, Tryd.underlying95, Tryd.runUnderlying95, Tryd.sizeOf95, Tryd.isAgg95, Tryd.zeroValue95, Tryd.underlying97, Tryd.runUnderlying97, Tryd.sizeOf97, Tryd.isAgg97, Tryd.zeroValue97, Tryd.underlying63, Tryd.runUnderlying63, Tryd.sizeOf63, Tryd.isAgg63, Tryd.zeroValue63, Tryd.underlying21, Tryd.runUnderlying21, Tryd.sizeOf21, Tryd.isAgg21, Tryd.zeroValue21, (by kernel_rfl)⟩
/-- Lock, where the lock is free; Unlock, deferred, where it is held -/
def muCall : CallF := fun f args w => match args.toList with
  | [.pointer (some a)] => bif Nat.beq f 24 then (match w.cell? a with
    | some (.int .i32 x) => bif (decide (x = 0)) && !(w.frozen? a) then some (.tuple #[], w.setCell a (.int .i32 1)) else none
    | _ => none) else none
  | _ => none
def muDfr : CallF := fun f args w => match args.toList with
  | [.pointer (some a)] => bif Nat.beq f 25 then (match w.cell? a with
    | some (.int .i32 x) => bif (decide (x = 1)) && !(w.frozen? a) then some (.tuple #[], w.setCell a (.int .i32 0)) else none
    | _ => none) else none
  | _ => none
def mu : Prim := ⟨muCall, muDfr⟩
theorem mu_lock {w : World} {a : Addr} (h : w.cell? a = some (.int .i32 0)) (hf : w.frozen? a = false) : mu.call 24 #[.pointer (some a)] w = some (.tuple #[], w.setCell a (.int .i32 1)) := by simp [mu, muCall, h, hf]
theorem mu_unlock {w : World} {a : Addr} (h : w.cell? a = some (.int .i32 1)) (hf : w.frozen? a = false) : mu.dfr 25 #[.pointer (some a)] w = some (.tuple #[], w.setCell a (.int .i32 0)) := by simp [mu, muDfr, h, hf]
theorem muCall_some {f : FuncId} {args : Array Value} {w : World} {r : Value × World} (h : muCall f args w = some r) : ∃ a, f = 24 ∧ args = #[.pointer (some a)] ∧ w.cell? a = some (.int .i32 0) ∧ w.frozen? a = false ∧ r = (.tuple #[], w.setCell a (.int .i32 1)) := by
  unfold muCall at h
  split at h
  · rename_i a ha
    cases hb : Nat.beq f 24 with
    | false => rw [hb] at h; cases h
    | true =>
      rw [hb] at h
      simp only [cond_true] at h
      split at h
      · rename_i x hx
        cases hd : (decide (x = 0) && !(w.frozen? a)) with
        | false => rw [hd] at h; cases h
        | true =>
          rw [hd] at h
          simp only [Bool.and_eq_true, decide_eq_true_eq, Bool.not_eq_true'] at hd
          obtain ⟨rfl, hz⟩ := hd
          refine ⟨a, Nat.eq_of_beq_eq_true hb, by rw [← Array.toArray_toList (xs := args), ha], hx, hz, (Option.some.inj h).symm⟩
      · cases h
  · cases h
theorem muDfr_some {f : FuncId} {args : Array Value} {w : World} {r : Value × World} (h : muDfr f args w = some r) : ∃ a, f = 25 ∧ args = #[.pointer (some a)] ∧ w.cell? a = some (.int .i32 1) ∧ w.frozen? a = false ∧ r = (.tuple #[], w.setCell a (.int .i32 0)) := by
  unfold muDfr at h
  split at h
  · rename_i a ha
    cases hb : Nat.beq f 25 with
    | false => rw [hb] at h; cases h
    | true =>
      rw [hb] at h
      simp only [cond_true] at h
      split at h
      · rename_i x hx
        cases hd : (decide (x = 1) && !(w.frozen? a)) with
        | false => rw [hd] at h; cases h
        | true =>
          rw [hd] at h
          simp only [Bool.and_eq_true, decide_eq_true_eq, Bool.not_eq_true'] at hd
          obtain ⟨rfl, hz⟩ := hd
          refine ⟨a, Nat.eq_of_beq_eq_true hb, by rw [← Array.toArray_toList (xs := args), ha], hx, hz, (Option.some.inj h).symm⟩
      · cases h
  · cases h
theorem mu_ok : PrimOk Tryd.prog mu := by
  have h27 : ∀ args w, (callFunc 24 args).run Tryd.prog w = .ok (.enter 24 args) w := fun args w => Go.MuLone.run_callFunc_enter (P := Tryd.prog) muLib.f_lock (by kernel_rfl) rfl args w
  have h28 : ∀ args w, (callFunc 25 args).run Tryd.prog w = .ok (.enter 25 args) w := fun args w => Go.MuLone.run_callFunc_enter (P := Tryd.prog) muLib.f_unlock (by kernel_rfl) rfl args w
  refine ⟨⟨fun f args w r h => ?_, fun f args w r h => ?_⟩, ⟨fun f args w r h => ?_, fun f args w r h => ?_⟩⟩
  · obtain ⟨a, rfl, rfl, _, _, rfl⟩ := muCall_some h
    exact h27 _ _
  · obtain ⟨a, rfl, rfl, hc, hz, rfl⟩ := muCall_some h
    exact Go.MuLone.lock_free muLib a w hc hz
  · obtain ⟨a, rfl, rfl, _, _, rfl⟩ := muDfr_some h
    simp [invoke, h28]
  · obtain ⟨a, rfl, rfl, hc, hz, rfl⟩ := muDfr_some h
    refine (Go.MuLone.unlock_deferred muLib a .returning w hc hz).mono ?_
    rintro e u w' ⟨rfl, rfl, rfl⟩
    exact ⟨rfl, rfl, rfl⟩
end Go.Sh.YtodkllcibbidoaaDoor

namespace Go.Sh.YtodkllcibbidoaaDoor
open Go Go.Proofs
set_option linter.unusedVariables false
set_option maxRecDepth 100000

/-- dailies/reel.Continue -/
def f7.ann : Ann := (.s .z (.s .z (.s (.b [0, 4] (.s .z (.c (.s .z .z) (.s .z (.c (.s .z .z) .z))))) (.s (.s .z (.j [0, 4] (.s .z (.s .z (.c (.s .z .z) .z))) .z)) (.s .z .z)))))
noncomputable def f7 (call : CallF) (m0 : Value) (W0 : World) : Option (Value × World) :=
  ((call 8 #[m0] W0).bind fun r9 =>
  (prun Tryd.prog (Instr.extract r9.1 0)).bind fun v10 =>
  (prun Tryd.prog (Instr.extract r9.1 1)).bind fun v11 =>
  ((bin .neq v11 (Value.int IntKind.i64 0)).bind fun v14 =>
  (asB v14).bind fun c12 =>
  if c12 then
    some (Res.ret [(Value.pointer none), v11] r9.2)
  else
  (nilV Tryd.prog v10).bind fun v18 =>
  (prun Tryd.prog (Instr.fieldAt 50 v18 3)).bind fun v19 =>
  (rrun Tryd.prog (Instr.loadAt 4 v19) r9.2).bind fun v20 =>
  (asB v20).bind fun c16 =>
  if c16 then
    some (Res.ret [(Value.pointer none), (Value.int IntKind.i64 164)] r9.2)
  else
  some (Res.norm [m0, v10] r9.2)).bind fun (r : Res) => (r.unblock 0).cont fun vs W1 =>
  let m0_1 := nth vs 0
  let r4 := nth vs 1
  ((call 10 #[m0_1] W1.drew).bind fun r22_1 =>
  some (r22_1.1, r22_1.2)).bind fun r22 =>
  ((nilV Tryd.prog r4).bind fun v24 =>
  some (v24, r22.2)).bind fun r24 =>
  ((prun Tryd.prog (Instr.fieldAt 50 r24.1 4)).bind fun v25 =>
  some (v25, r24.2)).bind fun r25 =>
  ((rrun Tryd.prog (Instr.loadAt 3 r25.1) r25.2).bind fun v26 =>
  some (v26, r25.2)).bind fun r26 =>
  ((bin .gtr r22.1 r26.1).bind fun v27 =>
  some (v27, r26.2)).bind fun r27 =>
  chkThen ((((rrun Tryd.prog (Instr.loadAt 3 r25.1) W1.drew).bind fun v26_1 => some v26_1) = some r26.1 ∧ ((rrun Tryd.prog (Instr.loadAt 3 r25.1) r22.2).bind fun v26_2 => some v26_2) = some r26.1) ∧ True)
  ((asB r27.1).bind fun c27 =>
  (if c27 then
    (nilV Tryd.prog r4).bind fun v30 =>
    (prun Tryd.prog (Instr.fieldAt 50 v30 4)).bind fun v31 =>
    (rrun Tryd.prog (Instr.loadAt 3 v31) r27.2).bind fun v32 =>
    (call 17 #[m0_1, v32] r27.2).bind fun r33 =>
    (bin .neq r33.1 (Value.int IntKind.i64 0)).bind fun v35 =>
    (asB v35).bind fun c35 =>
    if c35 then
      some (Res.ret [(Value.pointer none), r33.1] r33.2)
    else
    some (Res.norm [m0_1, r4] r33.2)
   else
    some (Res.norm [m0_1, r4] r27.2)).bind fun (r : Res) => r.cont fun vs_1 W2 =>
  let m0_2 := nth vs_1 0
  let r4_1 := nth vs_1 1
  (nilV Tryd.prog r4_1).bind fun v39 =>
  (prun Tryd.prog (Instr.fieldAt 50 v39 2)).bind fun v40 =>
  (rrun Tryd.prog (Instr.loadAt 46 v40) W2).bind fun v41 =>
  (prun Tryd.prog (Instr.build 48 #[(0, m0_2), (1, v41)])).bind fun v42 =>
  (erun Tryd.prog (Instr.box 48 v42) W2).bind fun r43 =>
  some (Res.ret [r43.1, (Value.int IntKind.i64 0)] r43.2))).bind Res.done
/-- dailies/medium.New -/
def f9.ann : Ann := (.s .z (.s .z .z))
noncomputable def f9 (call : CallF)  (W0 : World) : Option (Value × World) :=
  ((prun Tryd.prog (Instr.build 71 #[])).bind fun v1 =>
  (erun Tryd.prog (Instr.box 71 v1) W0).bind fun r2 =>
  some (Res.ret [r2.1] r2.2)).bind Res.done
theorem f9.eq (call dfr : CallF)  (W0 : World) : aFun Tryd.prog call dfr Tryd.f9 f9.ann (ofArgs #[]) W0 = f9 call  W0 := by kernel_rfl

/-- (*dailies/medium.Medium).Size -/
def f10.ann : Ann := (.s .z (.s .z (.s .z (.s .z .z))))
noncomputable def f10 (call dfr : CallF) (m0 : Value) (W0 : World) : Option (Value × World) :=
  ((nilV Tryd.prog m0).bind fun v4 =>
  (prun Tryd.prog (Instr.fieldAt 71 v4 0)).bind fun v5 =>
  (call 24 #[v5] W0).bind fun r6 =>
  (nilV Tryd.prog m0).bind fun v8 =>
  (prun Tryd.prog (Instr.fieldAt 71 v8 0)).bind fun v9 =>
  ((nilV Tryd.prog m0).bind fun v11 =>
  (prun Tryd.prog (Instr.fieldAt 71 v11 1)).bind fun v12 =>
  (rrun Tryd.prog (Instr.loadAt 44 v12) r6.2).bind fun v13 =>
  (prun Tryd.prog (Builtin.len_ #[44] 3 #[v13])).bind fun v14 =>
  some (Res.ret [v14] r6.2)).bind fun (r : Res) => r.after dfr 25 #[v9]).bind Res.done
theorem f10.eq (call dfr : CallF) (m0 : Value) (W0 : World) : aFun Tryd.prog call dfr Tryd.f10 f10.ann (ofArgs #[m0]) W0 = f10 call dfr m0 W0 := by kernel_rfl

/-- (*dailies/reel.Writer).Finish -/
def f11.ann : Ann := (.s .z (.s (.s .z (.c (.s .z .z) .z)) (.s .z (.s .z (.s .z (.s (.s .z (.c (.s .z .z) .z)) (.s .z .z)))))))
noncomputable def f11 (call : CallF) (w0 : Value) (W0 : World) : Option (Value × World) :=
  ((erun Tryd.prog (Instr.alloc 39 true (.tuple #[])) W0).bind fun r2 =>
  (nilV Tryd.prog w0).bind fun v8 =>
  (prun Tryd.prog (Instr.fieldAt 48 v8 2)).bind fun v9 =>
  (rrun Tryd.prog (Instr.loadAt 4 v9) r2.2).bind fun v10 =>
  (asB v10).bind fun c10 =>
  if c10 then
    (prun Tryd.prog (Instr.build 39 #[])).bind fun v11 =>
    (erun Tryd.prog (Instr.storeAt 39 r2.1 v11) r2.2).bind fun r =>
    some (Res.ret [r2.1, (Value.int IntKind.i64 164)] r.2)
  else
  (nilV Tryd.prog w0).bind fun v13 =>
  (prun Tryd.prog (Instr.fieldAt 48 v13 2)).bind fun v14 =>
  (erun Tryd.prog (Instr.storeAt 4 v14 (Value.bool true)) r2.2).bind fun r_1 =>
  ((nilV Tryd.prog w0).bind fun v16 =>
  some (v16, r_1.2.drew)).bind fun r16 =>
  ((prun Tryd.prog (Instr.fieldAt 48 r16.1 1)).bind fun v17 =>
  some (v17, r16.2)).bind fun r17 =>
  ((rrun Tryd.prog (Instr.loadAt 46 r17.1) r17.2).bind fun v18 =>
  some (v18, r17.2)).bind fun r18 =>
  ((nilV Tryd.prog w0).bind fun v20 =>
  some (v20, r18.2)).bind fun r20 =>
  ((prun Tryd.prog (Instr.fieldAt 48 r20.1 0)).bind fun v21 =>
  some (v21, r20.2)).bind fun r21 =>
  ((rrun Tryd.prog (Instr.loadAt 35 r21.1) r21.2).bind fun v22 =>
  some (v22, r21.2)).bind fun r22 =>
  ((call 10 #[r22.1] r22.2).bind fun r23_1 =>
  some (r23_1.1, r23_1.2)).bind fun r23 =>
  ((call 21 #[r18.1, r23.1] r23.2).bind fun r24_1 =>
  some (r24_1.1, r24_1.2)).bind fun r24 =>
  chkThen ((((rrun Tryd.prog (Instr.loadAt 46 r17.1) r22.2).bind fun v18_1 => some v18_1) = some r18.1 ∧ ((rrun Tryd.prog (Instr.loadAt 46 r17.1) r23.2).bind fun v18_2 => some v18_2) = some r18.1) ∧ True)
  ((nilV Tryd.prog w0).bind fun v27 =>
  (prun Tryd.prog (Instr.fieldAt 48 v27 0)).bind fun v28 =>
  (rrun Tryd.prog (Instr.loadAt 35 v28) r24.2).bind fun v29 =>
  (call 15 #[v29, r24.1] r24.2).bind fun r31 =>
  (prun Tryd.prog (Instr.extract r31.1 0)).bind fun v32 =>
  (prun Tryd.prog (Instr.extract r31.1 1)).bind fun v33 =>
  (bin .neq v33 (Value.int IntKind.i64 0)).bind fun v35 =>
  (asB v35).bind fun c35 =>
  if c35 then
    (prun Tryd.prog (Instr.build 39 #[])).bind fun v36 =>
    (erun Tryd.prog (Instr.storeAt 39 r2.1 v36) r31.2).bind fun r_2 =>
    some (Res.ret [r2.1, v33] r_2.2)
  else
  (nilV Tryd.prog w0).bind fun v39 =>
  (prun Tryd.prog (Instr.fieldAt 48 v39 1)).bind fun v40 =>
  (rrun Tryd.prog (Instr.loadAt 46 v40) r31.2).bind fun v41 =>
  (prun Tryd.prog (Builtin.len_ #[46] 3 #[v41])).bind fun v42 =>
  (prun Tryd.prog (Builtin.len_ #[44] 3 #[r24.1])).bind fun v45 =>
  (prun Tryd.prog (Instr.build 39 #[(0, v42), (1, v32), (2, v45)])).bind fun v46 =>
  (erun Tryd.prog (Instr.storeAt 39 r2.1 v46) r31.2).bind fun r_3 =>
  some (Res.ret [r2.1, (Value.int IntKind.i64 0)] r_3.2))).bind (Res.doneR Tryd.prog [.cell 2 39, .tmp 3])
theorem f11.eq (call dfr : CallF) (w0 : Value) (W0 : World) : aFun Tryd.prog call dfr Tryd.f11 f11.ann (ofArgs #[w0]) W0 = f11 call w0 W0 := by kernel_rfl

/-- (*dailies/reel.Reel).Finished -/
def f12.ann : Ann := (.s .z (.s .z .z))
noncomputable def f12 (call : CallF) (r0 : Value) (W0 : World) : Option (Value × World) :=
  ((nilV Tryd.prog r0).bind fun v4 =>
  (prun Tryd.prog (Instr.fieldAt 50 v4 3)).bind fun v5 =>
  (rrun Tryd.prog (Instr.loadAt 4 v5) W0).bind fun v6 =>
  some (Res.ret [v6] W0)).bind Res.done
theorem f12.eq (call dfr : CallF) (r0 : Value) (W0 : World) : aFun Tryd.prog call dfr Tryd.f12 f12.ann (ofArgs #[r0]) W0 = f12 call r0 W0 := by kernel_rfl

/-- (*dailies/reel.Reel).Count -/
def f13.ann : Ann := (.s .z (.s .z .z))
noncomputable def f13 (call : CallF) (r0 : Value) (W0 : World) : Option (Value × World) :=
  ((nilV Tryd.prog r0).bind fun v4 =>
  (prun Tryd.prog (Instr.fieldAt 50 v4 2)).bind fun v5 =>
  (rrun Tryd.prog (Instr.loadAt 46 v5) W0).bind fun v6 =>
  (prun Tryd.prog (Builtin.len_ #[46] 3 #[v6])).bind fun v7 =>
  some (Res.ret [v7] W0)).bind Res.done
theorem f13.eq (call dfr : CallF) (r0 : Value) (W0 : World) : aFun Tryd.prog call dfr Tryd.f13 f13.ann (ofArgs #[r0]) W0 = f13 call r0 W0 := by kernel_rfl

/-- dailies/reel.may -/
def f14.ann : Ann := (.s .z (.s .z .z))
noncomputable def f14 (call : CallF) (l0 : Value) (W0 : World) : Option (Value × World) :=
  ((erun Tryd.prog (Instr.box 25 l0) W0).bind fun r1 =>
  (prun Tryd.prog (Instr.fieldAt 25 r1.1 0)).bind fun v3 =>
  (rrun Tryd.prog (Instr.loadAt 9 v3) r1.2).bind fun v4 =>
  (prun Tryd.prog (Builtin.len_ #[9] 3 #[v4])).bind fun v5 =>
  (bin .leq v5 (Value.int IntKind.i64 100)).bind fun v6 =>
  (asB v6).bind fun b7 =>
  (if b7 = true then (prun Tryd.prog (Instr.fieldAt 25 r1.1 0)).bind fun v8 =>
    (rrun Tryd.prog (Instr.loadAt 9 v8) r1.2).bind fun v9 =>
    (call 26 #[v9] r1.2).bind fun r10 =>
    some (r10.1, r10.2)
   else some ((Value.bool false), r1.2)).bind fun r11 =>
  (asB r11.1).bind fun b12 =>
  (if b12 = true then (prun Tryd.prog (Instr.fieldAt 25 r1.1 1)).bind fun v13 =>
    (rrun Tryd.prog (Instr.loadAt 23 v13) r11.2).bind fun v14 =>
    (bin .geq v14 (Value.int IntKind.i64 1)).bind fun v15 =>
    some (v15, r11.2)
   else some ((Value.bool false), r11.2)).bind fun r16 =>
  (asB r16.1).bind fun b17 =>
  (if b17 = true then (prun Tryd.prog (Instr.fieldAt 25 r1.1 1)).bind fun v18 =>
    (rrun Tryd.prog (Instr.loadAt 23 v18) r16.2).bind fun v19 =>
    (bin .leq v19 (Value.int IntKind.i64 7)).bind fun v20 =>
    some (v20, r16.2)
   else some ((Value.bool false), r16.2)).bind fun r21 =>
  (asB r21.1).bind fun b22 =>
  (if b22 = true then (prun Tryd.prog (Instr.fieldAt 25 r1.1 2)).bind fun v23 =>
    (rrun Tryd.prog (Instr.loadAt 3 v23) r21.2).bind fun v24 =>
    (bin .geq v24 (Value.int IntKind.i64 0)).bind fun v25 =>
    some (v25, r21.2)
   else some ((Value.bool false), r21.2)).bind fun r26 =>
  (asB r26.1).bind fun b27 =>
  (if b27 = true then (prun Tryd.prog (Instr.fieldAt 25 r1.1 2)).bind fun v28 =>
    (rrun Tryd.prog (Instr.loadAt 3 v28) r26.2).bind fun v29 =>
    (bin .leq v29 (Value.int IntKind.i64 5183999)).bind fun v30 =>
    some (v30, r26.2)
   else some ((Value.bool false), r26.2)).bind fun r31 =>
  some (Res.ret [r31.1] r31.2)).bind Res.done
theorem f14.eq (call dfr : CallF) (l0 : Value) (W0 : World) : aFun Tryd.prog call dfr Tryd.f14 f14.ann (ofArgs #[l0]) W0 = f14 call l0 W0 := by kernel_rfl

/-- (*dailies/medium.Medium).Append -/
def f15.ann : Ann := (.s .z (.s .z (.s .z (.s (.b [0, 1] (.s .z (.c (.s .z .z) (.s .z (.c (.s .z .z) (.s .z (.c (.s .z (.s .z (.s .z .z))) (.s .z (.c .z .z))))))))) (.s .z (.s .z (.s .z .z)))))))
noncomputable def f15 (call dfr : CallF) (m0 : Value) (b1 : Value) (W0 : World) : Option (Value × World) :=
  ((nilV Tryd.prog m0).bind fun v8 =>
  (prun Tryd.prog (Instr.fieldAt 71 v8 0)).bind fun v9 =>
  (call 24 #[v9] W0).bind fun r10 =>
  (nilV Tryd.prog m0).bind fun v12 =>
  (prun Tryd.prog (Instr.fieldAt 71 v12 0)).bind fun v13 =>
  (((nilV Tryd.prog m0).bind fun v16 =>
  (prun Tryd.prog (Instr.fieldAt 71 v16 2)).bind fun v17 =>
  (rrun Tryd.prog (Instr.loadAt 4 v17) r10.2).bind fun v18 =>
  (asB v18).bind fun c14 =>
  if c14 then
    some (Res.ret [(Value.int IntKind.i64 0), (Value.int IntKind.i64 152)] r10.2)
  else
  (prun Tryd.prog (Builtin.len_ #[44] 3 #[b1])).bind fun v21 =>
  (nilV Tryd.prog m0).bind fun v23 =>
  (prun Tryd.prog (Instr.fieldAt 71 v23 1)).bind fun v24 =>
  (rrun Tryd.prog (Instr.loadAt 44 v24) r10.2).bind fun v25 =>
  (prun Tryd.prog (Builtin.len_ #[44] 3 #[v25])).bind fun v26 =>
  (bin .sub (Value.int IntKind.i64 268435456) v26).bind fun v27 =>
  (bin .gtr v21 v27).bind fun v28 =>
  (asB v28).bind fun c19 =>
  if c19 then
    some (Res.ret [(Value.int IntKind.i64 0), (Value.int IntKind.i64 153)] r10.2)
  else
  (nilV Tryd.prog m0).bind fun v31 =>
  (prun Tryd.prog (Instr.fieldAt 71 v31 3)).bind fun v32 =>
  (rrun Tryd.prog (Instr.loadAt 3 v32) r10.2).bind fun v33 =>
  (bin .eql v33 (Value.int IntKind.i64 1)).bind fun v34 =>
  (asB v34).bind fun c29 =>
  if c29 then
    ((nilV Tryd.prog m0).bind fun v37 =>
    some (v37, r10.2.drew)).bind fun r37 =>
    ((prun Tryd.prog (Instr.fieldAt 71 r37.1 1)).bind fun v38 =>
    some (v38, r37.2)).bind fun r38 =>
    ((rrun Tryd.prog (Instr.loadAt 44 r38.1) r38.2).bind fun v39 =>
    some (v39, r38.2)).bind fun r39 =>
    ((nilV Tryd.prog m0).bind fun v42 =>
    some (v42, r39.2)).bind fun r42 =>
    ((prun Tryd.prog (Instr.fieldAt 71 r42.1 4)).bind fun v43 =>
    some (v43, r42.2)).bind fun r43 =>
    ((rrun Tryd.prog (Instr.loadAt 3 r43.1) r43.2).bind fun v44 =>
    some (v44, r43.2)).bind fun r44 =>
    ((prun Tryd.prog (Builtin.len_ #[44] 3 #[b1])).bind fun v46 =>
    some (v46, r44.2)).bind fun r46 =>
    ((prun Tryd.prog (Builtin.min_ #[3, 3] 3 #[r44.1, r46.1])).bind fun v47 =>
    some (v47, r46.2)).bind fun r47 =>
    ((prun Tryd.prog (Instr.sliceAt 44 b1 none (some r47.1) none)).bind fun v48 =>
    some (v48, r47.2)).bind fun r48 =>
    ((erun Tryd.prog (Builtin.append_ #[44, 44] 44 #[r39.1, r48.1]) r48.2).bind fun r49_1 =>
    some (r49_1.1, r49_1.2)).bind fun r49 =>
    ((nilV Tryd.prog m0).bind fun v50 =>
    some (v50, r49.2)).bind fun r50 =>
    ((prun Tryd.prog (Instr.fieldAt 71 r50.1 1)).bind fun v51 =>
    some (v51, r50.2)).bind fun r51 =>
    ((erun Tryd.prog (Instr.storeAt 44 r51.1 r49.1) r51.2).bind fun r_1 =>
    some (undef, r_1.2)).bind fun r =>
    chkThen (True)
    ((nilV Tryd.prog m0).bind fun v54 =>
    (prun Tryd.prog (Instr.fieldAt 71 v54 2)).bind fun v55 =>
    (erun Tryd.prog (Instr.storeAt 4 v55 (Value.bool true)) r.2).bind fun r_2 =>
    (nilV Tryd.prog m0).bind fun v56 =>
    (prun Tryd.prog (Instr.fieldAt 71 v56 3)).bind fun v57 =>
    (erun Tryd.prog (Instr.storeAt 3 v57 (Value.int IntKind.i64 0)) r_2.2).bind fun r_3 =>
    some (Res.ret [(Value.int IntKind.i64 0), (Value.int IntKind.i64 152)] r_3.2))
  else
  (nilV Tryd.prog m0).bind fun v60 =>
  (prun Tryd.prog (Instr.fieldAt 71 v60 3)).bind fun v61 =>
  (rrun Tryd.prog (Instr.loadAt 3 v61) r10.2).bind fun v62 =>
  (bin .gtr v62 (Value.int IntKind.i64 1)).bind fun v63 =>
  (asB v63).bind fun c58 =>
  if c58 then
    (nilV Tryd.prog m0).bind fun v65 =>
    (prun Tryd.prog (Instr.fieldAt 71 v65 3)).bind fun v66 =>
    (rrun Tryd.prog (Instr.loadAt 3 v66) r10.2).bind fun v67 =>
    (bin .sub v67 (Value.int IntKind.i64 1)).bind fun v68 =>
    (nilV Tryd.prog m0).bind fun v69 =>
    (prun Tryd.prog (Instr.fieldAt 71 v69 3)).bind fun v70 =>
    (erun Tryd.prog (Instr.storeAt 3 v70 v68) r10.2).bind fun r_4 =>
    some (Res.norm [m0, b1] r_4.2)
  else
  some (Res.norm [m0, b1] r10.2)).bind fun (r : Res) => (r.unblock 0).cont fun vs W1 =>
  let m0_1 := nth vs 0
  let b1_1 := nth vs 1
  (nilV Tryd.prog m0_1).bind fun v72 =>
  (prun Tryd.prog (Instr.fieldAt 71 v72 1)).bind fun v73 =>
  (rrun Tryd.prog (Instr.loadAt 44 v73) W1).bind fun v74 =>
  (prun Tryd.prog (Builtin.len_ #[44] 3 #[v74])).bind fun v75 =>
  (nilV Tryd.prog m0_1).bind fun v78 =>
  (prun Tryd.prog (Instr.fieldAt 71 v78 1)).bind fun v79 =>
  (rrun Tryd.prog (Instr.loadAt 44 v79) W1).bind fun v80 =>
  (erun Tryd.prog (Builtin.append_ #[44, 44] 44 #[v80, b1_1]) W1).bind fun r82 =>
  (nilV Tryd.prog m0_1).bind fun v83 =>
  (prun Tryd.prog (Instr.fieldAt 71 v83 1)).bind fun v84 =>
  (erun Tryd.prog (Instr.storeAt 44 v84 r82.1) r82.2).bind fun r_5 =>
  some (Res.ret [v75, (Value.int IntKind.i64 0)] r_5.2)).bind fun (r : Res) => r.after dfr 25 #[v13]).bind Res.done
theorem f15.eq (call dfr : CallF) (m0 : Value) (b1 : Value) (W0 : World) : aFun Tryd.prog call dfr Tryd.f15 f15.ann (ofArgs #[m0, b1]) W0 = f15 call dfr m0 b1 W0 := by kernel_rfl

/-- (*dailies/medium.Medium).Truncate -/
def f17.ann : Ann := (.s .z (.s .z (.s .z (.s (.s .z (.c (.s .z .z) .z)) (.s .z (.s .z .z))))))
/-- (*dailies/medium.Medium).Dead -/
def f18.ann : Ann := (.s .z (.s .z (.s .z (.s .z .z))))
noncomputable def f18 (call dfr : CallF) (m0 : Value) (W0 : World) : Option (Value × World) :=
  ((nilV Tryd.prog m0).bind fun v4 =>
  (prun Tryd.prog (Instr.fieldAt 71 v4 0)).bind fun v5 =>
  (call 24 #[v5] W0).bind fun r6 =>
  (nilV Tryd.prog m0).bind fun v8 =>
  (prun Tryd.prog (Instr.fieldAt 71 v8 0)).bind fun v9 =>
  ((nilV Tryd.prog m0).bind fun v11 =>
  (prun Tryd.prog (Instr.fieldAt 71 v11 2)).bind fun v12 =>
  (rrun Tryd.prog (Instr.loadAt 4 v12) r6.2).bind fun v13 =>
  some (Res.ret [v13] r6.2)).bind fun (r : Res) => r.after dfr 25 #[v9]).bind Res.done
theorem f18.eq (call dfr : CallF) (m0 : Value) (W0 : World) : aFun Tryd.prog call dfr Tryd.f18 f18.ann (ofArgs #[m0]) W0 = f18 call dfr m0 W0 := by kernel_rfl

/-- (*dailies/reel.Reel).chain -/
def f20.ann : Ann := (.s .z (.s .z .z))
noncomputable def f20 (call : CallF) (r0 : Value) (at1 : Value) (e2 : Value) (W0 : World) : Option (Value × World) :=
  ((erun Tryd.prog (Instr.box 31 r0) W0).bind fun r3 =>
  (erun Tryd.prog (Instr.box 3 at1) r3.2).bind fun r4 =>
  (erun Tryd.prog (Instr.box 57 e2) r4.2).bind fun r5 =>
  some (Res.ret [(.func (Fn.func 30) #[] #[r4.1, r3.1, r5.1])] r5.2)).bind Res.done
theorem f20.eq (call dfr : CallF) (r0 : Value) (at1 : Value) (e2 : Value) (W0 : World) : aFun Tryd.prog call dfr Tryd.f20 f20.ann (ofArgs #[r0, at1, e2]) W0 = f20 call r0 at1 e2 W0 := by kernel_rfl

/-- dailies/reel.end -/
def f21.ann : Ann := (.s .z (.s .z (.s (.s .z (.b [1, 5] (.l [1, 5, 14, 15, 16] (.s .z (.s (.c .z .z) (.s (.b [1, 5, 14, 15, 16] (.s .z .z)) .z)))))) (.s .z .z))))
noncomputable def f21.l0 (call : CallF) (vs : List Value) (W1 : World) : Option Res :=
  let at1_1 := nth vs 0
  let index5 := nth vs 1
  let v14 := nth vs 2
  let v15_1 := nth vs 3
  let v16 := nth vs 4
  (bin .lss v16 v15_1).bind fun v17 =>
  (asB v17).bind fun c17 =>
  if c17 then
    ((prun Tryd.prog (Instr.indexAt 46 v14 v16)).bind fun v18 =>
    (rrun Tryd.prog (Instr.loadAt 39 v18) W1).bind fun v19 =>
    (erun Tryd.prog (Instr.alloc 39 true (.tuple #[])) W1).bind fun r7 =>
    (erun Tryd.prog (Instr.storeAt 39 r7.1 v19) r7.2).bind fun r =>
    (prun Tryd.prog (Instr.fieldAt 39 r7.1 1)).bind fun v21 =>
    (rrun Tryd.prog (Instr.loadAt 3 v21) r.2).bind fun v22 =>
    (bin .sub v22 (Value.int IntKind.i64 16)).bind fun v23 =>
    (call 28 #[v23] r.2).bind fun r24 =>
    (erun Tryd.prog (Builtin.append_ #[44, 44] 44 #[index5, r24.1]) r24.2).bind fun r25 =>
    some (Res.norm [at1_1, r25.1, v14, v15_1, v16] r25.2)).bind fun (r : Res) => (r.unblock 1).cont fun vs_1 W2 =>
    let at1_2 := nth vs_1 0
    let index5_1 := nth vs_1 1
    let v14_1 := nth vs_1 2
    let v15_2 := nth vs_1 3
    let v16_1 := nth vs_1 4
    (bin .add v16_1 (Value.int IntKind.i64 1)).bind fun v26 =>
    some (Res.norm [at1_2, index5_1, v14_1, v15_2, v26] W2)
  else
  some (Res.exit 0 [at1_1, index5] W1)
noncomputable def f21 (call : CallF) (records0 : Value) (at1 : Value) (W0 : World) : Option (Value × World) :=
  ((erun Tryd.prog (Instr.buildSlice 44 4 #[(0, (Value.int IntKind.u8 73)), (1, (Value.int IntKind.u8 78)), (2, (Value.int IntKind.u8 68)), (3, (Value.int IntKind.u8 88))]) W0).bind fun r8 =>
  (erun Tryd.prog (convert 44 44 r8.1) r8.2).bind fun r9 =>
  (prun Tryd.prog (Builtin.len_ #[46] 3 #[records0])).bind fun v11 =>
  (call 28 #[v11] r9.2).bind fun r12 =>
  (erun Tryd.prog (Builtin.append_ #[44, 44] 44 #[r9.1, r12.1]) r12.2).bind fun r13 =>
  (prun Tryd.prog (Builtin.len_ #[46] 3 #[records0])).bind fun v15 =>
  (iter (f21.l0 call) [at1, r13.1, records0, v15, (Value.int IntKind.i64 0)] r13.2).bind fun (r : Res) => (r.unblock 0).cont fun vs_2 W3 =>
  let at1_3 := nth vs_2 0
  let index5_2 := nth vs_2 1
  (erun Tryd.prog (Instr.buildSlice 86 1 #[(0, index5_2)]) W3).bind fun r28 =>
  (call 27 #[r28.1] r28.2).bind fun r29 =>
  (erun Tryd.prog (Instr.buildSlice 44 4 #[(0, (Value.int IntKind.u8 70)), (1, (Value.int IntKind.u8 79)), (2, (Value.int IntKind.u8 79)), (3, (Value.int IntKind.u8 84))]) r29.2).bind fun r30 =>
  (erun Tryd.prog (convert 44 44 r30.1) r30.2).bind fun r31 =>
  (call 28 #[at1_3] r31.2).bind fun r33 =>
  (erun Tryd.prog (Instr.buildSlice 86 2 #[(0, r31.1), (1, r33.1)]) r33.2).bind fun r34 =>
  (call 27 #[r34.1] r34.2).bind fun r35 =>
  (erun Tryd.prog (Builtin.append_ #[44, 44] 44 #[r29.1, r35.1]) r35.2).bind fun r36 =>
  some (Res.ret [r36.1] r36.2)).bind Res.done
theorem f21.eq (call dfr : CallF) (records0 : Value) (at1 : Value) (W0 : World) : aFun Tryd.prog call dfr Tryd.f21 f21.ann (ofArgs #[records0, at1]) W0 = f21 call records0 at1 W0 := by kernel_rfl

/-- dailies/reel.read -/
def f22.ann : Ann := (.s .z (.s .z (.s (.s .z (.c (.s .z .z) .z)) (.s .z .z))))
noncomputable def f22 (call : CallF) (m0 : Value) (at1 : Value) (n2 : Value) (W0 : World) : Option (Value × World) :=
  ((call 32 #[m0, at1, n2] W0).bind fun r14 =>
  (prun Tryd.prog (Instr.extract r14.1 0)).bind fun v15 =>
  (prun Tryd.prog (Instr.extract r14.1 1)).bind fun v16 =>
  (bin .eql v16 (Value.int IntKind.i64 151)).bind fun v18 =>
  (asB v18).bind fun c18 =>
  if c18 then
    some (Res.ret [(Value.slice none 0 0), (Value.int IntKind.i64 0)] r14.2)
  else
  some (Res.ret [v15, v16] r14.2)).bind Res.done
theorem f22.eq (call dfr : CallF) (m0 : Value) (at1 : Value) (n2 : Value) (W0 : World) : aFun Tryd.prog call dfr Tryd.f22 f22.ann (ofArgs #[m0, at1, n2]) W0 = f22 call m0 at1 n2 W0 := by kernel_rfl

/-- bytes.Equal -/
def f23.ann : Ann := (.s .z (.s .z .z))
noncomputable def f23 (call : CallF) (a0 : Value) (b1 : Value) (W0 : World) : Option (Value × World) :=
  ((rrun Tryd.prog (convert 44 9 a0) W0).bind fun v6 =>
  (rrun Tryd.prog (convert 44 9 b1) W0).bind fun v8 =>
  (prun Tryd.prog (do eqGuard .eql 9 (Operand.tmp 6) (Operand.tmp 8) v6 v8; binOp .eql 9 v6 v8)).bind fun v9 =>
  some (Res.ret [v9] W0)).bind Res.done
theorem f23.eq (call dfr : CallF) (a0 : Value) (b1 : Value) (W0 : World) : aFun Tryd.prog call dfr Tryd.f23 f23.ann (ofArgs #[a0, b1]) W0 = f23 call a0 b1 W0 := by kernel_rfl

/-- unicode/utf8.ValidString -/
def f26.ann : Ann := (.s .z (.s (.b [] (.l [0] (.s (.s .z (.c .z .z)) (.b [0] (.s .z (.s (.s .z (.c (.s .z (.s (.s .z (.j [0] (.s .z (.s .z (.c (.s .z (.b [0] (.l [0] (.s (.s .z (.c .z .z)) (.b [0] .z))))) .z))) .z)) .z)) .z)) (.s .z (.s .z (.s .z (.s .z (.b [0] (.s .z (.c (.s (.s .z (.c (.s .z .z) .z)) .z) (.s .z (.c (.s (.s .z (.c (.s .z .z) .z)) .z) (.s .z (.c (.s (.s .z (.c (.s .z .z) .z)) .z) (.s .z .z)))))))))))))))))) (.s .z .z)))
noncomputable def f26.l0 (call : CallF) (vs_1 : List Value) (W2 : World) : Option Res :=
  let t0_2 := nth vs_1 0
  ((prun Tryd.prog (Builtin.len_ #[9] 3 #[t0_2])).bind fun v43 =>
  some (v43, W2.drew)).bind fun r43 =>
  ((bin .gtr r43.1 (Value.int IntKind.i64 32)).bind fun v44 =>
  some (v44, r43.2)).bind fun r44 =>
  (if wantedV true r44.1 = true then some (t0_2, r44.2) else some (undef, r44.2)).bind fun r46 =>
  (if wantedV true r44.1 = true then (call 35 #[r46.1] r46.2).bind fun r47_1 =>
  some (r47_1.1, r47_1.2) else some (undef, r46.2)).bind fun r47 =>
  (if wantedV true r44.1 = true then some (t0_2, r47.2) else some (undef, r47.2)).bind fun r48 =>
  (if wantedV true r44.1 = true then (prun Tryd.prog (Instr.sliceAt 9 r48.1 (some (Value.int IntKind.i64 8)) none none)).bind fun v49 =>
  some (v49, r48.2) else some (undef, r48.2)).bind fun r49 =>
  (if wantedV true r44.1 = true then (call 35 #[r49.1] r49.2).bind fun r50_1 =>
  some (r50_1.1, r50_1.2) else some (undef, r49.2)).bind fun r50 =>
  (if wantedV true r44.1 = true then (prun Tryd.prog (do eqGuard .or 12 (Operand.tmp 47) (Operand.tmp 50) r47.1 r50.1; binOp .or 12 r47.1 r50.1)).bind fun v51 =>
  some (v51, r50.2) else some (undef, r50.2)).bind fun r51 =>
  (if wantedV true r44.1 = true then some (t0_2, r51.2) else some (undef, r51.2)).bind fun r52 =>
  (if wantedV true r44.1 = true then (prun Tryd.prog (Instr.sliceAt 9 r52.1 (some (Value.int IntKind.i64 16)) none none)).bind fun v53 =>
  some (v53, r52.2) else some (undef, r52.2)).bind fun r53 =>
  (if wantedV true r44.1 = true then (call 35 #[r53.1] r53.2).bind fun r54_1 =>
  some (r54_1.1, r54_1.2) else some (undef, r53.2)).bind fun r54 =>
  (if wantedV true r44.1 = true then some (t0_2, r54.2) else some (undef, r54.2)).bind fun r55 =>
  (if wantedV true r44.1 = true then (prun Tryd.prog (Instr.sliceAt 9 r55.1 (some (Value.int IntKind.i64 24)) none none)).bind fun v56 =>
  some (v56, r55.2) else some (undef, r55.2)).bind fun r56 =>
  (if wantedV true r44.1 = true then (call 35 #[r56.1] r56.2).bind fun r57_1 =>
  some (r57_1.1, r57_1.2) else some (undef, r56.2)).bind fun r57 =>
  (if wantedV true r44.1 = true then (prun Tryd.prog (do eqGuard .or 12 (Operand.tmp 54) (Operand.tmp 57) r54.1 r57.1; binOp .or 12 r54.1 r57.1)).bind fun v58 =>
  some (v58, r57.2) else some (undef, r57.2)).bind fun r58 =>
  (if wantedV true r44.1 = true then (prun Tryd.prog (do eqGuard .or 12 (Operand.tmp 51) (Operand.tmp 58) r51.1 r58.1; binOp .or 12 r51.1 r58.1)).bind fun v59 =>
  some (v59, r58.2) else some (undef, r58.2)).bind fun r59 =>
  (if wantedV true r44.1 = true then (prun Tryd.prog (do eqGuard .and 12 (Operand.tmp 59) (Operand.const (Value.int IntKind.u64 9259542123273814144)) r59.1 (Value.int IntKind.u64 9259542123273814144); binOp .and 12 r59.1 (Value.int IntKind.u64 9259542123273814144))).bind fun v60 =>
  some (v60, r59.2) else some (undef, r59.2)).bind fun r60 =>
  (if wantedV true r44.1 = true then (bin .eql r60.1 (Value.int IntKind.u64 0)).bind fun v61 =>
  some (v61, r60.2) else some (undef, r60.2)).bind fun r61 =>
  ((pickV r44.1 r61.1 (Value.bool false)).bind fun v62 =>
  some (v62, r61.2)).bind fun r62 =>
  chkThen (True)
  ((asB r62.1).bind fun c62 =>
  if c62 then
    ((prun Tryd.prog (Instr.sliceAt 9 t0_2 (some (Value.int IntKind.i64 32)) none none)).bind fun v64 =>
    some (Res.norm [v64] r62.2)).bind fun (r : Res) => (r.unblock 3).cont fun vs_2 W3 =>
    let t0_3 := nth vs_2 0
    some (Res.norm [t0_3] W3)
  else
  some (Res.exit 2 [t0_2] r62.2))
noncomputable def f26.l1 (call : CallF) (vs : List Value) (W1 : World) : Option Res :=
  let t0_1 := nth vs 0
  (prun Tryd.prog (Builtin.len_ #[9] 3 #[t0_1])).bind fun v8 =>
  (bin .gtr v8 (Value.int IntKind.i64 0)).bind fun v9 =>
  (asB v9).bind fun c9 =>
  if c9 then
    ((prun Tryd.prog (Instr.index 9 t0_1 (Value.int IntKind.i64 0))).bind fun v11 =>
    (bin .lss v11 (Value.int IntKind.u8 128)).bind fun v13 =>
    (asB v13).bind fun c13 =>
    if c13 then
      (prun Tryd.prog (Instr.sliceAt 9 t0_1 (some (Value.int IntKind.i64 1)) none none)).bind fun v15 =>
      (prun Tryd.prog (Builtin.len_ #[9] 3 #[v15])).bind fun v17 =>
      (bin .gtr v17 (Value.int IntKind.i64 8)).bind fun v18 =>
      (asB v18).bind fun b19 =>
      (if b19 = true then (call 35 #[v15] W1).bind fun r21 =>
        (prun Tryd.prog (do eqGuard .and 12 (Operand.tmp 21) (Operand.const (Value.int IntKind.u64 9259542123273814144)) r21.1 (Value.int IntKind.u64 9259542123273814144); binOp .and 12 r21.1 (Value.int IntKind.u64 9259542123273814144))).bind fun v22 =>
        (bin .eql v22 (Value.int IntKind.u64 0)).bind fun v23 =>
        some (v23, r21.2)
       else some ((Value.bool false), W1)).bind fun r24 =>
      (asB r24.1).bind fun c24 =>
      (if c24 then
        (prun Tryd.prog (Instr.sliceAt 9 v15 (some (Value.int IntKind.i64 8)) none none)).bind fun v26 =>
        ((prun Tryd.prog (Builtin.len_ #[9] 3 #[v26])).bind fun v28 =>
        some (v28, r24.2.drew)).bind fun r28 =>
        ((bin .gtr r28.1 (Value.int IntKind.i64 16)).bind fun v29 =>
        some (v29, r28.2)).bind fun r29 =>
        (if wantedV true r29.1 = true then some (v26, r29.2) else some (undef, r29.2)).bind fun r31 =>
        (if wantedV true r29.1 = true then (call 35 #[r31.1] r31.2).bind fun r32_1 =>
        some (r32_1.1, r32_1.2) else some (undef, r31.2)).bind fun r32 =>
        (if wantedV true r29.1 = true then some (v26, r32.2) else some (undef, r32.2)).bind fun r33 =>
        (if wantedV true r29.1 = true then (prun Tryd.prog (Instr.sliceAt 9 r33.1 (some (Value.int IntKind.i64 8)) none none)).bind fun v34 =>
        some (v34, r33.2) else some (undef, r33.2)).bind fun r34 =>
        (if wantedV true r29.1 = true then (call 35 #[r34.1] r34.2).bind fun r35_1 =>
        some (r35_1.1, r35_1.2) else some (undef, r34.2)).bind fun r35 =>
        (if wantedV true r29.1 = true then (prun Tryd.prog (do eqGuard .or 12 (Operand.tmp 32) (Operand.tmp 35) r32.1 r35.1; binOp .or 12 r32.1 r35.1)).bind fun v36 =>
        some (v36, r35.2) else some (undef, r35.2)).bind fun r36 =>
        (if wantedV true r29.1 = true then (prun Tryd.prog (do eqGuard .and 12 (Operand.tmp 36) (Operand.const (Value.int IntKind.u64 9259542123273814144)) r36.1 (Value.int IntKind.u64 9259542123273814144); binOp .and 12 r36.1 (Value.int IntKind.u64 9259542123273814144))).bind fun v37 =>
        some (v37, r36.2) else some (undef, r36.2)).bind fun r37 =>
        (if wantedV true r29.1 = true then (bin .eql r37.1 (Value.int IntKind.u64 0)).bind fun v38 =>
        some (v38, r37.2) else some (undef, r37.2)).bind fun r38 =>
        ((pickV r29.1 r38.1 (Value.bool false)).bind fun v39 =>
        some (v39, r38.2)).bind fun r39 =>
        chkThen (True)
        ((asB r39.1).bind fun c39 =>
        if c39 then
          (prun Tryd.prog (Instr.sliceAt 9 v26 (some (Value.int IntKind.i64 16)) none none)).bind fun v41 =>
          (iter (f26.l0 call) [v41] r39.2).bind fun (r : Res) => (r.unblock 2).cont fun vs_3 W4 =>
          let t0_4 := nth vs_3 0
          some (Res.norm [t0_4] W4)
        else
        some (Res.norm [v26] r39.2))
       else
        some (Res.norm [v15] r24.2)).bind fun (r : Res) => r.cont fun vs_4 W5 =>
      let t0_5 := nth vs_4 0
      some (Res.exit 1 [t0_5] W5)
    else
    (prun Tryd.prog (Instr.indexAt 81 (.pointer (some ⟨0, 0, none⟩)) v11)).bind fun v66 =>
    (rrun Tryd.prog (Instr.loadAt 5 v66) W1).bind fun v67 =>
    (prun Tryd.prog (do eqGuard .and 5 (Operand.tmp 68) (Operand.const (Value.int IntKind.u8 7)) v67 (Value.int IntKind.u8 7); binOp .and 5 v67 (Value.int IntKind.u8 7))).bind fun v69 =>
    (prun Tryd.prog (convert 5 3 v69)).bind fun v70 =>
    (prun Tryd.prog (do eqGuard .shr 5 (Operand.tmp 71) (Operand.const (Value.int IntKind.u64 4)) v67 (Value.int IntKind.u64 4); binOp .shr 5 v67 (Value.int IntKind.u64 4))).bind fun v72 =>
    (prun Tryd.prog (Instr.indexAt 84 (.pointer (some ⟨1, 0, none⟩)) v72)).bind fun v73 =>
    (rrun Tryd.prog (Instr.loadAt 83 v73) W1).bind fun v74 =>
    (erun Tryd.prog (Instr.alloc 83 true (.tuple #[])) W1).bind fun r6 =>
    (erun Tryd.prog (Instr.storeAt 83 r6.1 v74) r6.2).bind fun r =>
    ((bin .eql v70 (Value.int IntKind.i64 2)).bind fun v77 =>
    (asB v77).bind fun c76 =>
    if c76 then
      (prun Tryd.prog (Builtin.len_ #[9] 3 #[t0_1])).bind fun v79 =>
      (bin .lss v79 (Value.int IntKind.i64 2)).bind fun v80 =>
      (asB v80).bind fun b81 =>
      (if b81 = false then (prun Tryd.prog (Instr.index 9 t0_1 (Value.int IntKind.i64 1))).bind fun v83 =>
        (prun Tryd.prog (Instr.fieldAt 83 r6.1 0)).bind fun v84 =>
        (rrun Tryd.prog (Instr.loadAt 5 v84) r.2.drew).bind fun v85 =>
        (bin .lss v83 v85).bind fun v86 =>
        some (v86, r.2.drew)
       else some ((Value.bool true), r.2.drew)).bind fun r87 =>
      (asB r87.1).bind fun b88 =>
      (if b88 = false then (prun Tryd.prog (Instr.fieldAt 83 r6.1 1)).bind fun v89 =>
        (rrun Tryd.prog (Instr.loadAt 5 v89) r87.2).bind fun v90 =>
        (prun Tryd.prog (Instr.index 9 t0_1 (Value.int IntKind.i64 1))).bind fun v92 =>
        (bin .lss v90 v92).bind fun v93 =>
        some (v93, r87.2)
       else some ((Value.bool true), r87.2)).bind fun r94 =>
      (asB r94.1).bind fun c94 =>
      if c94 then
        some (Res.ret [(Value.bool false)] r94.2)
      else
      (prun Tryd.prog (Instr.sliceAt 9 t0_1 (some (Value.int IntKind.i64 2)) none none)).bind fun v96 =>
      some (Res.norm [v96] r94.2)
    else
    (bin .eql v70 (Value.int IntKind.i64 3)).bind fun v98 =>
    (asB v98).bind fun c97 =>
    if c97 then
      (prun Tryd.prog (Builtin.len_ #[9] 3 #[t0_1])).bind fun v100 =>
      (bin .lss v100 (Value.int IntKind.i64 3)).bind fun v101 =>
      (asB v101).bind fun b102 =>
      (if b102 = false then (prun Tryd.prog (Instr.index 9 t0_1 (Value.int IntKind.i64 1))).bind fun v104 =>
        (prun Tryd.prog (Instr.fieldAt 83 r6.1 0)).bind fun v105 =>
        (rrun Tryd.prog (Instr.loadAt 5 v105) r.2.drew).bind fun v106 =>
        (bin .lss v104 v106).bind fun v107 =>
        some (v107, r.2.drew)
       else some ((Value.bool true), r.2.drew)).bind fun r108 =>
      (asB r108.1).bind fun b109 =>
      (if b109 = false then (prun Tryd.prog (Instr.fieldAt 83 r6.1 1)).bind fun v110 =>
        (rrun Tryd.prog (Instr.loadAt 5 v110) r108.2).bind fun v111 =>
        (prun Tryd.prog (Instr.index 9 t0_1 (Value.int IntKind.i64 1))).bind fun v113 =>
        (bin .lss v111 v113).bind fun v114 =>
        some (v114, r108.2)
       else some ((Value.bool true), r108.2)).bind fun r115 =>
      (asB r115.1).bind fun b116 =>
      (if b116 = false then (prun Tryd.prog (Instr.index 9 t0_1 (Value.int IntKind.i64 2))).bind fun v118 =>
        (bin .lss v118 (Value.int IntKind.u8 128)).bind fun v119 =>
        some (v119, r115.2)
       else some ((Value.bool true), r115.2)).bind fun r120 =>
      (asB r120.1).bind fun b121 =>
      (if b121 = false then (prun Tryd.prog (Instr.index 9 t0_1 (Value.int IntKind.i64 2))).bind fun v123 =>
        (bin .lss (Value.int IntKind.u8 191) v123).bind fun v124 =>
        some (v124, r120.2)
       else some ((Value.bool true), r120.2)).bind fun r125 =>
      (asB r125.1).bind fun c125 =>
      if c125 then
        some (Res.ret [(Value.bool false)] r125.2)
      else
      (prun Tryd.prog (Instr.sliceAt 9 t0_1 (some (Value.int IntKind.i64 3)) none none)).bind fun v127 =>
      some (Res.norm [v127] r125.2)
    else
    (bin .eql v70 (Value.int IntKind.i64 4)).bind fun v129 =>
    (asB v129).bind fun c128 =>
    if c128 then
      (prun Tryd.prog (Builtin.len_ #[9] 3 #[t0_1])).bind fun v131 =>
      (bin .lss v131 (Value.int IntKind.i64 4)).bind fun v132 =>
      (asB v132).bind fun b133 =>
      (if b133 = false then (prun Tryd.prog (Instr.index 9 t0_1 (Value.int IntKind.i64 1))).bind fun v135 =>
        (prun Tryd.prog (Instr.fieldAt 83 r6.1 0)).bind fun v136 =>
        (rrun Tryd.prog (Instr.loadAt 5 v136) r.2.drew).bind fun v137 =>
        (bin .lss v135 v137).bind fun v138 =>
        some (v138, r.2.drew)
       else some ((Value.bool true), r.2.drew)).bind fun r139 =>
      (asB r139.1).bind fun b140 =>
      (if b140 = false then (prun Tryd.prog (Instr.fieldAt 83 r6.1 1)).bind fun v141 =>
        (rrun Tryd.prog (Instr.loadAt 5 v141) r139.2).bind fun v142 =>
        (prun Tryd.prog (Instr.index 9 t0_1 (Value.int IntKind.i64 1))).bind fun v144 =>
        (bin .lss v142 v144).bind fun v145 =>
        some (v145, r139.2)
       else some ((Value.bool true), r139.2)).bind fun r146 =>
      (asB r146.1).bind fun b147 =>
      (if b147 = false then (prun Tryd.prog (Instr.index 9 t0_1 (Value.int IntKind.i64 2))).bind fun v149 =>
        (bin .lss v149 (Value.int IntKind.u8 128)).bind fun v150 =>
        some (v150, r146.2)
       else some ((Value.bool true), r146.2)).bind fun r151 =>
      (asB r151.1).bind fun b152 =>
      (if b152 = false then (prun Tryd.prog (Instr.index 9 t0_1 (Value.int IntKind.i64 2))).bind fun v154 =>
        (bin .lss (Value.int IntKind.u8 191) v154).bind fun v155 =>
        some (v155, r151.2)
       else some ((Value.bool true), r151.2)).bind fun r156 =>
      (asB r156.1).bind fun b157 =>
      (if b157 = false then (prun Tryd.prog (Instr.index 9 t0_1 (Value.int IntKind.i64 3))).bind fun v159 =>
        (bin .lss v159 (Value.int IntKind.u8 128)).bind fun v160 =>
        some (v160, r156.2)
       else some ((Value.bool true), r156.2)).bind fun r161 =>
      (asB r161.1).bind fun b162 =>
      (if b162 = false then (prun Tryd.prog (Instr.index 9 t0_1 (Value.int IntKind.i64 3))).bind fun v164 =>
        (bin .lss (Value.int IntKind.u8 191) v164).bind fun v165 =>
        some (v165, r161.2)
       else some ((Value.bool true), r161.2)).bind fun r166 =>
      (asB r166.1).bind fun c166 =>
      if c166 then
        some (Res.ret [(Value.bool false)] r166.2)
      else
      (prun Tryd.prog (Instr.sliceAt 9 t0_1 (some (Value.int IntKind.i64 4)) none none)).bind fun v168 =>
      some (Res.norm [v168] r166.2)
    else
    some (Res.ret [(Value.bool false)] r.2)).bind fun (r : Res) => (r.unblock 4).cont fun vs_5 W6 =>
    let t0_6 := nth vs_5 0
    some (Res.norm [t0_6] W6)).bind fun (r : Res) => (r.unblock 1).cont fun vs_6 W7 =>
    let t0_7 := nth vs_6 0
    some (Res.norm [t0_7] W7)
  else
  some (Res.exit 0 [] W1)
noncomputable def f26 (call : CallF) (t0 : Value) (W0 : World) : Option (Value × World) :=
  ((iter (f26.l1 call) [t0] W0).bind fun (r : Res) => (r.unblock 0).cont fun vs_7 W8 =>
  some (Res.ret [(Value.bool true)] W8)).bind Res.done
theorem f26.eq (call dfr : CallF) (t0 : Value) (W0 : World) : aFun Tryd.prog call dfr Tryd.f26 f26.ann (ofArgs #[t0]) W0 = f26 call t0 W0 := by kernel_rfl

/-- dailies/reel.summed -/
def f27.ann : Ann := (.s .z (.s .z (.s .z .z)))
noncomputable def f27 (call : CallF) (parts0 : Value) (W0 : World) : Option (Value × World) :=
  ((call 36 #[parts0, (Value.slice none 0 0)] W0).bind fun r5 =>
  (call 37 #[r5.1] r5.2).bind fun r8 =>
  (prun Tryd.prog (convert 64 3 r8.1)).bind fun v9 =>
  (call 28 #[v9] r8.2).bind fun r10 =>
  (erun Tryd.prog (Builtin.append_ #[44, 44] 44 #[r5.1, r10.1]) r10.2).bind fun r11 =>
  some (Res.ret [r11.1] r11.2)).bind Res.done
theorem f27.eq (call dfr : CallF) (parts0 : Value) (W0 : World) : aFun Tryd.prog call dfr Tryd.f27 f27.ann (ofArgs #[parts0]) W0 = f27 call parts0 W0 := by kernel_rfl

/-- dailies/reel.four -/
def f28.ann : Ann := (.s .z (.s .z (.s .z .z)))
noncomputable def f28 (call : CallF) (n0 : Value) (W0 : World) : Option (Value × World) :=
  ((prun Tryd.prog (convert 3 90 n0)).bind fun v7 =>
  (call 38 #[v7, (Value.int IntKind.i64 4)] W0).bind fun r8 =>
  (prun Tryd.prog (Instr.extract r8.1 0)).bind fun v9 =>
  (prun Tryd.prog (Instr.extract r8.1 1)).bind fun v10 =>
  some (Res.ret [v9] r8.2)).bind Res.done
theorem f28.eq (call dfr : CallF) (n0 : Value) (W0 : World) : aFun Tryd.prog call dfr Tryd.f28 f28.ann (ofArgs #[n0]) W0 = f28 call n0 W0 := by kernel_rfl

/-- dailies/reel.number -/
def f29.ann : Ann := (.s .z (.s .z (.s .z .z)))
noncomputable def f29 (call : CallF) (b0 : Value) (W0 : World) : Option (Value × World) :=
  ((prun Tryd.prog (Instr.sliceAt 44 b0 none (some (Value.int IntKind.i64 4)) none)).bind fun v7 =>
  (call 39 #[v7] W0).bind fun r8 =>
  (prun Tryd.prog (Instr.extract r8.1 0)).bind fun v9 =>
  (prun Tryd.prog (Instr.extract r8.1 1)).bind fun v10 =>
  (prun Tryd.prog (convert 90 3 v9)).bind fun v12 =>
  some (Res.ret [v12] r8.2)).bind Res.done
theorem f29.eq (call dfr : CallF) (b0 : Value) (W0 : World) : aFun Tryd.prog call dfr Tryd.f29 f29.ann (ofArgs #[b0]) W0 = f29 call b0 W0 := by kernel_rfl

/-- (*dailies/reel.Reel).chain$1 -/
def f30.ann : Ann := (.s .z (.s .z (.s .z (.s (.s .z (.c .z .z)) (.s .z (.s (.s .z (.c (.s .z .z) .z)) (.s .z (.s (.s .z (.c .z .z)) (.s .z (.s .z .z))))))))))
noncomputable def f30 (call : CallF) (yield0 : Value) (v1 : Value) (v2 : Value) (v3 : Value) (W0 : World) : Option (Value × World) :=
  ((rrun Tryd.prog (Instr.loadAt 31 v2) W0).bind fun v9 =>
  (rrun Tryd.prog (Instr.loadAt 3 v1) W0).bind fun v10 =>
  (nilV Tryd.prog v9).bind fun v11 =>
  (prun Tryd.prog (Instr.fieldAt 50 v11 4)).bind fun v12 =>
  (erun Tryd.prog (Instr.storeAt 3 v12 v10) W0).bind fun r =>
  (bin .eql (Value.int IntKind.i64 0) (Value.int IntKind.i64 100000)).bind fun v14 =>
  (asB v14).bind fun c14 =>
  if c14 then
    some (Res.ret [] r.2)
  else
  ((rrun Tryd.prog (Instr.loadAt 31 v2) r.2.drew).bind fun v16 =>
  some (v16, r.2.drew)).bind fun r16 =>
  ((nilV Tryd.prog r16.1).bind fun v17 =>
  some (v17, r16.2)).bind fun r17 =>
  ((prun Tryd.prog (Instr.fieldAt 50 r17.1 0)).bind fun v18 =>
  some (v18, r17.2)).bind fun r18 =>
  ((rrun Tryd.prog (Instr.loadAt 35 r18.1) r18.2).bind fun v19 =>
  some (v19, r18.2)).bind fun r19 =>
  ((rrun Tryd.prog (Instr.loadAt 3 v1) r19.2).bind fun v20 =>
  some (v20, r19.2)).bind fun r20 =>
  ((call 22 #[r19.1, r20.1, (Value.int IntKind.i64 16)] r20.2).bind fun r21_1 =>
  some (r21_1.1, r21_1.2)).bind fun r21 =>
  ((prun Tryd.prog (Instr.extract r21.1 0)).bind fun v22 =>
  some (v22, r21.2)).bind fun r22 =>
  ((prun Tryd.prog (Instr.extract r21.1 1)).bind fun v23 =>
  some (v23, r22.2)).bind fun r23 =>
  chkThen (True)
  ((bin .neq r23.1 (Value.int IntKind.i64 0)).bind fun v25 =>
  (asB v25).bind fun b26 =>
  (if b26 = false then (prun Tryd.prog (Builtin.len_ #[44] 3 #[r22.1])).bind fun v28 =>
    (bin .lss v28 (Value.int IntKind.i64 16)).bind fun v29 =>
    some (v29, r23.2)
   else some ((Value.bool true), r23.2)).bind fun r30 =>
  (asB r30.1).bind fun c30 =>
  if c30 then
    (rrun Tryd.prog (Instr.loadAt 57 v3) r30.2).bind fun v31 =>
    (nilV Tryd.prog v31).bind fun v33 =>
    (erun Tryd.prog (Instr.storeAt 27 v33 r23.1) r30.2).bind fun r_1 =>
    some (Res.ret [] r_1.2)
  else
  (prun Tryd.prog (Instr.sliceAt 44 r22.1 (some (Value.int IntKind.i64 8)) none none)).bind fun v35 =>
  (call 29 #[v35] r30.2).bind fun r36 =>
  ((call 31 #[(Value.int IntKind.i64 0), r36.1] r36.2.drew).bind fun r40_1 =>
  some (r40_1.1, r40_1.2)).bind fun r40 =>
  ((call 23 #[r22.1, r40.1] r40.2).bind fun r41_1 =>
  some (r41_1.1, r41_1.2)).bind fun r41 =>
  ((prun Tryd.prog (Op.unary .not r41.1)).bind fun v42 =>
  some (v42, r41.2)).bind fun r42 =>
  (if wantedV false r42.1 = true then some (r36.1, r42.2) else some (undef, r42.2)).bind fun r44 =>
  (if wantedV false r42.1 = true then (rrun Tryd.prog (Instr.loadAt 31 v2) r44.2).bind fun v45 =>
  some (v45, r44.2) else some (undef, r44.2)).bind fun r45 =>
  (if wantedV false r42.1 = true then (nilV Tryd.prog r45.1).bind fun v46 =>
  some (v46, r45.2) else some (undef, r45.2)).bind fun r46 =>
  (if wantedV false r42.1 = true then (prun Tryd.prog (Instr.fieldAt 50 r46.1 0)).bind fun v47 =>
  some (v47, r46.2) else some (undef, r46.2)).bind fun r47 =>
  (if wantedV false r42.1 = true then (rrun Tryd.prog (Instr.loadAt 35 r47.1) r47.2).bind fun v48 =>
  some (v48, r47.2) else some (undef, r47.2)).bind fun r48 =>
  (if wantedV false r42.1 = true then (call 10 #[r48.1] r48.2).bind fun r49_1 =>
  some (r49_1.1, r49_1.2) else some (undef, r48.2)).bind fun r49 =>
  (if wantedV false r42.1 = true then (rrun Tryd.prog (Instr.loadAt 3 v1) r49.2).bind fun v50 =>
  some (v50, r49.2) else some (undef, r49.2)).bind fun r50 =>
  (if wantedV false r42.1 = true then (bin .sub r49.1 r50.1).bind fun v51 =>
  some (v51, r50.2) else some (undef, r50.2)).bind fun r51 =>
  (if wantedV false r42.1 = true then (bin .sub r51.1 (Value.int IntKind.i64 16)).bind fun v52 =>
  some (v52, r51.2) else some (undef, r51.2)).bind fun r52 =>
  (if wantedV false r42.1 = true then (bin .gtr r44.1 r52.1).bind fun v53 =>
  some (v53, r52.2) else some (undef, r52.2)).bind fun r53 =>
  ((pickV r42.1 (Value.bool true) r53.1).bind fun v54 =>
  some (v54, r53.2)).bind fun r54 =>
  (if wantedV false r54.1 = true then some (yield0, r54.2) else some (undef, r54.2)).bind fun r56 =>
  (if wantedV false r54.1 = true then some ((Value.int IntKind.i64 0), r56.2) else some (undef, r56.2)).bind fun r57 =>
  (if wantedV false r54.1 = true then (rrun Tryd.prog (Instr.loadAt 3 v1) r57.2).bind fun v58 =>
  some (v58, r57.2) else some (undef, r57.2)).bind fun r58 =>
  (if wantedV false r54.1 = true then (bin .add r58.1 (Value.int IntKind.i64 16)).bind fun v59 =>
  some (v59, r58.2) else some (undef, r58.2)).bind fun r59 =>
  (if wantedV false r54.1 = true then some (r36.1, r59.2) else some (undef, r59.2)).bind fun r60 =>
  (if wantedV false r54.1 = true then (prun Tryd.prog (Instr.build 39 #[(0, r57.1), (1, r59.1), (2, r60.1)])).bind fun v61 =>
  some (v61, r60.2) else some (undef, r60.2)).bind fun r61 =>
  (if wantedV false r54.1 = true then (callV call r56.1 [r61.1] r61.2).bind fun r62_1 =>
  some (r62_1.1, r62_1.2) else some (undef, r61.2)).bind fun r62 =>
  (if wantedV false r54.1 = true then (prun Tryd.prog (Op.unary .not r62.1)).bind fun v63 =>
  some (v63, r62.2) else some (undef, r62.2)).bind fun r63 =>
  ((pickV r54.1 (Value.bool true) r63.1).bind fun v64 =>
  some (v64, r63.2)).bind fun r64 =>
  chkThen (((if wantedV false r42.1 = true then ((rrun Tryd.prog (Instr.loadAt 3 v1) r48.2).bind fun v50_1 => some v50_1) = some r50.1 else True) ∧ (if wantedV false r42.1 = true then ((rrun Tryd.prog (Instr.loadAt 3 v1) r49.2).bind fun v50_2 => some v50_2) = some r50.1 else True)) ∧ True)
  ((asB r64.1).bind fun c64 =>
  if c64 then
    some (Res.ret [] r64.2)
  else
  (rrun Tryd.prog (Instr.loadAt 3 v1) r64.2).bind fun v65 =>
  (bin .add (Value.int IntKind.i64 16) r36.1).bind fun v67 =>
  (bin .add v65 v67).bind fun v68 =>
  (erun Tryd.prog (Instr.storeAt 3 v1 v68) r64.2).bind fun r_2 =>
  (bin .add (Value.int IntKind.i64 0) (Value.int IntKind.i64 1)).bind fun v70 =>
  none))).bind Res.done
theorem f30.eq (call dfr : CallF) (yield0 : Value) (v1 : Value) (v2 : Value) (v3 : Value) (W0 : World) : aFun Tryd.prog call dfr Tryd.f30 f30.ann (ofArgs #[yield0, v1, v2, v3]) W0 = f30 call yield0 v1 v2 v3 W0 := by kernel_rfl

/-- dailies/reel.link -/
def f31.ann : Ann := (.s .z (.s .z .z))
noncomputable def f31 (call : CallF) (i0 : Value) (n1 : Value) (W0 : World) : Option (Value × World) :=
  ((erun Tryd.prog (Instr.buildSlice 44 4 #[(0, (Value.int IntKind.u8 76)), (1, (Value.int IntKind.u8 73)), (2, (Value.int IntKind.u8 78)), (3, (Value.int IntKind.u8 75))]) W0).bind fun r5 =>
  (erun Tryd.prog (convert 44 44 r5.1) r5.2).bind fun r6 =>
  (call 28 #[i0] r6.2).bind fun r8 =>
  (call 28 #[n1] r8.2).bind fun r10 =>
  (erun Tryd.prog (Instr.buildSlice 86 3 #[(0, r6.1), (1, r8.1), (2, r10.1)]) r10.2).bind fun r11 =>
  (call 27 #[r11.1] r11.2).bind fun r12 =>
  some (Res.ret [r12.1] r12.2)).bind Res.done
theorem f31.eq (call dfr : CallF) (i0 : Value) (n1 : Value) (W0 : World) : aFun Tryd.prog call dfr Tryd.f31 f31.ann (ofArgs #[i0, n1]) W0 = f31 call i0 n1 W0 := by kernel_rfl

/-- (*dailies/medium.Medium).Read -/
def f32.ann : Ann := (.s .z (.s .z (.s .z (.s .z .z))))
noncomputable def f32 (call dfr : CallF) (m0 : Value) (at1 : Value) (n2 : Value) (W0 : World) : Option (Value × World) :=
  ((nilV Tryd.prog m0).bind fun v9 =>
  (prun Tryd.prog (Instr.fieldAt 71 v9 0)).bind fun v10 =>
  (call 24 #[v10] W0).bind fun r11 =>
  (nilV Tryd.prog m0).bind fun v13 =>
  (prun Tryd.prog (Instr.fieldAt 71 v13 0)).bind fun v14 =>
  ((call 40 #[m0, at1, n2] r11.2).bind fun r18 =>
  (prun Tryd.prog (Instr.extract r18.1 0)).bind fun v19 =>
  (prun Tryd.prog (Instr.extract r18.1 1)).bind fun v20 =>
  some (Res.ret [v19, v20] r18.2)).bind fun (r : Res) => r.after dfr 25 #[v14]).bind Res.done
theorem f32.eq (call dfr : CallF) (m0 : Value) (at1 : Value) (n2 : Value) (W0 : World) : aFun Tryd.prog call dfr Tryd.f32 f32.ann (ofArgs #[m0, at1, n2]) W0 = f32 call dfr m0 at1 n2 W0 := by kernel_rfl

/-- unicode/utf8.word[string] -/
def f35.ann : Ann := (.s .z (.s (.c (.s .z .z) .z) (.s .z .z)))
/-- bytes.Join -/
def f36.ann : Ann := (.s .z (.s (.s .z (.c (.s .z .z) .z)) (.s (.s .z (.c (.s .z .z) .z)) (.s .z (.s (.s .z (.j [0, 1, 5] (.s (.s .z (.j [0, 1, 5] .z .z)) .z) .z)) (.s (.s .z (.b [0, 1, 5] (.l [0, 1, 5, 42, 43, 44] (.s .z (.s (.c .z .z) (.s (.b [0, 1, 5, 42, 43, 44] (.s .z (.s (.s .z (.j [0, 1, 5, 7, 42, 43, 44] .z .z)) .z))) .z)))))) (.s .z (.s .z (.s (.s .z (.b [8] (.l [1, 8, 9, 70, 71, 72] (.s .z (.s (.c .z .z) (.s (.b [1, 8, 9, 70, 71, 72] (.s .z (.s .z .z))) .z)))))) (.s .z .z))))))))))
noncomputable def f36.l0 (call : CallF) (vs_2 : List Value) (W3 : World) : Option Res :=
  let s0_3 := nth vs_2 0
  let sep1_3 := nth vs_2 1
  let n5_2 := nth vs_2 2
  let v42 := nth vs_2 3
  let v43_1 := nth vs_2 4
  let v44 := nth vs_2 5
  (bin .lss v44 v43_1).bind fun v45 =>
  (asB v45).bind fun c45 =>
  if c45 then
    ((prun Tryd.prog (Instr.indexAt 86 v42 v44)).bind fun v46 =>
    (rrun Tryd.prog (Instr.loadAt 44 v46) W3).bind fun v47 =>
    (prun Tryd.prog (Builtin.len_ #[44] 3 #[v47])).bind fun v49 =>
    (bin .sub (Value.int IntKind.i64 9223372036854775807) n5_2).bind fun v51 =>
    (bin .gtr v49 v51).bind fun v52 =>
    (asB v52).bind fun c52 =>
    (if c52 then
      (prun Tryd.prog (Instr.makeInterface 9 (Value.string { data := #[98, 121, 116, 101, 115, 58, 32, 74, 111, 105, 110, 32, 111, 117, 116, 112, 117, 116, 32, 108, 101, 110, 103, 116, 104, 32, 111, 118, 101, 114, 102, 108, 111, 119] }))).bind fun v53 =>
      none
     else
      some (Res.norm [s0_3, sep1_3, n5_2, v47, v42, v43_1, v44] W3)).bind fun (r : Res) => r.cont fun vs_3 W4 =>
    let s0_4 := nth vs_3 0
    let sep1_4 := nth vs_3 1
    let n5_3 := nth vs_3 2
    let v7 := nth vs_3 3
    let v42_1 := nth vs_3 4
    let v43_2 := nth vs_3 5
    let v44_1 := nth vs_3 6
    (prun Tryd.prog (Builtin.len_ #[44] 3 #[v7])).bind fun v56 =>
    (bin .add n5_3 v56).bind fun v57 =>
    some (Res.norm [s0_4, sep1_4, v57, v42_1, v43_2, v44_1] W4)).bind fun (r : Res) => (r.unblock 1).cont fun vs_4 W5 =>
    let s0_5 := nth vs_4 0
    let sep1_5 := nth vs_4 1
    let n5_4 := nth vs_4 2
    let v42_2 := nth vs_4 3
    let v43_3 := nth vs_4 4
    let v44_2 := nth vs_4 5
    (bin .add v44_2 (Value.int IntKind.i64 1)).bind fun v58 =>
    some (Res.norm [s0_5, sep1_5, n5_4, v42_2, v43_3, v58] W5)
  else
  some (Res.exit 0 [s0_3, sep1_3, n5_2] W3)
noncomputable def f36.l1 (call : CallF) (vs_6 : List Value) (W7 : World) : Option Res :=
  let sep1_7 := nth vs_6 0
  let b8 := nth vs_6 1
  let bp9 := nth vs_6 2
  let v70_1 := nth vs_6 3
  let v71_1 := nth vs_6 4
  let v72 := nth vs_6 5
  (bin .lss v72 v71_1).bind fun v73 =>
  (asB v73).bind fun c73 =>
  if c73 then
    ((prun Tryd.prog (Instr.indexAt 86 v70_1 v72)).bind fun v74 =>
    (rrun Tryd.prog (Instr.loadAt 44 v74) W7).bind fun v75 =>
    (prun Tryd.prog (Instr.sliceAt 44 b8 (some bp9) none none)).bind fun v79 =>
    (erun Tryd.prog (Builtin.copy_ #[44, 44] 3 #[v79, sep1_7]) W7).bind fun r81 =>
    (bin .add bp9 r81.1).bind fun v82 =>
    (prun Tryd.prog (Instr.sliceAt 44 b8 (some v82) none none)).bind fun v86 =>
    (erun Tryd.prog (Builtin.copy_ #[44, 44] 3 #[v86, v75]) r81.2).bind fun r88 =>
    (bin .add v82 r88.1).bind fun v89 =>
    some (Res.norm [sep1_7, b8, v89, v70_1, v71_1, v72] r88.2)).bind fun (r : Res) => (r.unblock 3).cont fun vs_7 W8 =>
    let sep1_8 := nth vs_7 0
    let b8_1 := nth vs_7 1
    let bp9_1 := nth vs_7 2
    let v70_2 := nth vs_7 3
    let v71_2 := nth vs_7 4
    let v72_1 := nth vs_7 5
    (bin .add v72_1 (Value.int IntKind.i64 1)).bind fun v90 =>
    some (Res.norm [sep1_8, b8_1, bp9_1, v70_2, v71_2, v90] W8)
  else
  some (Res.exit 2 [b8] W7)
noncomputable def f36 (call : CallF) (s0 : Value) (sep1 : Value) (W0 : World) : Option (Value × World) :=
  ((prun Tryd.prog (Builtin.len_ #[86] 3 #[s0])).bind fun v13 =>
  (bin .eql v13 (Value.int IntKind.i64 0)).bind fun v14 =>
  (asB v14).bind fun c14 =>
  if c14 then
    (erun Tryd.prog (Instr.buildSlice 44 0 #[]) W0).bind fun r15 =>
    some (Res.ret [r15.1] r15.2)
  else
  (prun Tryd.prog (Builtin.len_ #[86] 3 #[s0])).bind fun v17 =>
  (bin .eql v17 (Value.int IntKind.i64 1)).bind fun v18 =>
  (asB v18).bind fun c18 =>
  if c18 then
    (prun Tryd.prog (Instr.indexAt 86 s0 (Value.int IntKind.i64 0))).bind fun v20 =>
    (rrun Tryd.prog (Instr.loadAt 44 v20) W0).bind fun v21 =>
    (erun Tryd.prog (Builtin.append_ #[44, 44] 44 #[(Value.slice none 0 0), v21]) W0).bind fun r22 =>
    some (Res.ret [r22.1] r22.2)
  else
  (prun Tryd.prog (Builtin.len_ #[44] 3 #[sep1])).bind fun v24 =>
  (bin .gtr v24 (Value.int IntKind.i64 0)).bind fun v25 =>
  (asB v25).bind fun c25 =>
  (if c25 then
    (prun Tryd.prog (Builtin.len_ #[44] 3 #[sep1])).bind fun v27 =>
    (prun Tryd.prog (Builtin.len_ #[86] 3 #[s0])).bind fun v29 =>
    (bin .sub v29 (Value.int IntKind.i64 1)).bind fun v30 =>
    (bin .quo (Value.int IntKind.i64 9223372036854775807) v30).bind fun v31 =>
    (bin .geq v27 v31).bind fun v32 =>
    (asB v32).bind fun c32 =>
    (if c32 then
      (prun Tryd.prog (Instr.makeInterface 9 (Value.string { data := #[98, 121, 116, 101, 115, 58, 32, 74, 111, 105, 110, 32, 111, 117, 116, 112, 117, 116, 32, 108, 101, 110, 103, 116, 104, 32, 111, 118, 101, 114, 102, 108, 111, 119] }))).bind fun v33 =>
      none
     else
      some (Res.norm [s0, sep1, (Value.int IntKind.i64 0)] W0)).bind fun (r : Res) => r.cont fun vs W1 =>
    let s0_1 := nth vs 0
    let sep1_1 := nth vs 1
    let n5 := nth vs 2
    (prun Tryd.prog (Builtin.len_ #[44] 3 #[sep1_1])).bind fun v36 =>
    (prun Tryd.prog (Builtin.len_ #[86] 3 #[s0_1])).bind fun v38 =>
    (bin .sub v38 (Value.int IntKind.i64 1)).bind fun v39 =>
    (bin .mul v36 v39).bind fun v40 =>
    (bin .add n5 v40).bind fun v41 =>
    some (Res.norm [s0_1, sep1_1, v41] W1)
   else
    some (Res.norm [s0, sep1, (Value.int IntKind.i64 0)] W0)).bind fun (r : Res) => r.cont fun vs_1 W2 =>
  let s0_2 := nth vs_1 0
  let sep1_2 := nth vs_1 1
  let n5_1 := nth vs_1 2
  (prun Tryd.prog (Builtin.len_ #[86] 3 #[s0_2])).bind fun v43 =>
  (iter (f36.l0 call) [s0_2, sep1_2, n5_1, s0_2, v43, (Value.int IntKind.i64 0)] W2).bind fun (r : Res) => (r.unblock 0).cont fun vs_5 W6 =>
  let s0_6 := nth vs_5 0
  let sep1_6 := nth vs_5 1
  let n5_5 := nth vs_5 2
  (xrun Tryd.prog (callFunc 49 #[n5_5]) W6).bind fun r60 =>
  (prun Tryd.prog (Instr.sliceAt 44 r60.1 none (some n5_5) (some n5_5))).bind fun v63 =>
  (prun Tryd.prog (Instr.indexAt 86 s0_6 (Value.int IntKind.i64 0))).bind fun v66 =>
  (rrun Tryd.prog (Instr.loadAt 44 v66) r60.2).bind fun v67 =>
  (erun Tryd.prog (Builtin.copy_ #[44, 44] 3 #[v63, v67]) r60.2).bind fun r68 =>
  (prun Tryd.prog (Instr.sliceAt 86 s0_6 (some (Value.int IntKind.i64 1)) none none)).bind fun v70 =>
  (prun Tryd.prog (Builtin.len_ #[86] 3 #[v70])).bind fun v71 =>
  (iter (f36.l1 call) [sep1_6, v63, r68.1, v70, v71, (Value.int IntKind.i64 0)] r68.2).bind fun (r : Res) => (r.unblock 2).cont fun vs_8 W9 =>
  let b8_2 := nth vs_8 0
  some (Res.ret [b8_2] W9)).bind Res.done
theorem f36.eq (call dfr : CallF) (s0 : Value) (sep1 : Value) (W0 : World) : aFun Tryd.prog call dfr Tryd.f36 f36.ann (ofArgs #[s0, sep1]) W0 = f36 call s0 sep1 W0 := by kernel_rfl

/-- dailies/crc.Sum -/
def f37.ann : Ann := (.s .z (.s .z .z))
noncomputable def f37 (call : CallF) (b0 : Value) (W0 : World) : Option (Value × World) :=
  ((call 50 #[(Value.int IntKind.u32 0), b0] W0).bind fun r4 =>
  some (Res.ret [r4.1] r4.2)).bind Res.done
theorem f37.eq (call dfr : CallF) (b0 : Value) (W0 : World) : aFun Tryd.prog call dfr Tryd.f37 f37.ann (ofArgs #[b0]) W0 = f37 call b0 W0 := by kernel_rfl

/-- dailies/bits.Big -/
def f38.ann : Ann := (.s .z (.s (.s .z (.c (.s .z .z) .z)) (.s (.s .z (.c (.s .z .z) .z)) (.s .z (.s (.s .z (.b [6] (.l [0, 1, 6, 26, 27] (.s .z (.s (.c .z .z) (.s (.b [0, 1, 6, 26, 27] (.s .z .z)) .z)))))) (.s .z .z))))))
noncomputable def f38.l0 (call : CallF) (vs : List Value) (W1 : World) : Option Res :=
  let n0_1 := nth vs 0
  let bytes1_1 := nth vs 1
  let out6 := nth vs 2
  let v26_1 := nth vs 3
  let v27 := nth vs 4
  (bin .lss v27 v26_1).bind fun v28 =>
  (asB v28).bind fun c28 =>
  if c28 then
    ((bin .sub bytes1_1 (Value.int IntKind.i64 1)).bind fun v34 =>
    (bin .sub v34 v27).bind fun v36 =>
    (bin .mul (Value.int IntKind.i64 8) v36).bind fun v37 =>
    (call 52 #[n0_1, v37, (Value.int IntKind.i64 8)] W1).bind fun r38 =>
    (prun Tryd.prog (Instr.indexAt 44 out6 v27)).bind fun v39 =>
    (erun Tryd.prog (Instr.storeAt 5 v39 r38.1) r38.2).bind fun r =>
    some (Res.norm [n0_1, bytes1_1, out6, v26_1, v27] r.2)).bind fun (r : Res) => (r.unblock 1).cont fun vs_1 W2 =>
    let n0_2 := nth vs_1 0
    let bytes1_2 := nth vs_1 1
    let out6_1 := nth vs_1 2
    let v26_2 := nth vs_1 3
    let v27_1 := nth vs_1 4
    (bin .add v27_1 (Value.int IntKind.i64 1)).bind fun v40 =>
    some (Res.norm [n0_2, bytes1_2, out6_1, v26_2, v40] W2)
  else
  some (Res.exit 0 [out6] W1)
noncomputable def f38 (call : CallF) (n0 : Value) (bytes1 : Value) (W0 : World) : Option (Value × World) :=
  ((bin .lss bytes1 (Value.int IntKind.i64 1)).bind fun v9 =>
  (asB v9).bind fun b10 =>
  (if b10 = false then (bin .gtr bytes1 (Value.int IntKind.i64 8)).bind fun v12 =>
    some (v12, W0)
   else some ((Value.bool true), W0)).bind fun r13 =>
  (asB r13.1).bind fun c13 =>
  if c13 then
    some (Res.ret [(Value.slice none 0 0), (Value.int IntKind.i64 11)] r13.2)
  else
  (bin .lss bytes1 (Value.int IntKind.i64 8)).bind fun v15 =>
  (asB v15).bind fun b16 =>
  (if b16 = true then (bin .mul (Value.int IntKind.i64 8) bytes1).bind fun v19 =>
    (call 51 #[n0, v19] r13.2).bind fun r20 =>
    (prun Tryd.prog (Op.unary .not r20.1)).bind fun v21 =>
    some (v21, r20.2)
   else some ((Value.bool false), r13.2)).bind fun r22 =>
  (asB r22.1).bind fun c22 =>
  if c22 then
    some (Res.ret [(Value.slice none 0 0), (Value.int IntKind.i64 12)] r22.2)
  else
  (erun Tryd.prog (Instr.makeSlice 44 bytes1 bytes1) r22.2).bind fun r24 =>
  (prun Tryd.prog (Builtin.len_ #[44] 3 #[r24.1])).bind fun v26 =>
  (iter (f38.l0 call) [n0, bytes1, r24.1, v26, (Value.int IntKind.i64 0)] r24.2).bind fun (r : Res) => (r.unblock 0).cont fun vs_2 W3 =>
  let out6_2 := nth vs_2 0
  some (Res.ret [out6_2, (Value.int IntKind.i64 0)] W3)).bind Res.done
theorem f38.eq (call dfr : CallF) (n0 : Value) (bytes1 : Value) (W0 : World) : aFun Tryd.prog call dfr Tryd.f38 f38.ann (ofArgs #[n0, bytes1]) W0 = f38 call n0 bytes1 W0 := by kernel_rfl

/-- dailies/bits.Number -/
def f39.ann : Ann := (.s .z (.s (.s .z (.c (.s .z .z) .z)) (.s .z (.s (.s .z (.b [4] (.l [4, 15, 16, 17] (.s .z (.s (.c .z .z) (.s (.b [4, 15, 16, 17] (.s .z .z)) .z)))))) (.s .z .z)))))
noncomputable def f39.l0 (call : CallF) (vs : List Value) (W1 : World) : Option Res :=
  let n4 := nth vs 0
  let v15 := nth vs 1
  let v16_1 := nth vs 2
  let v17 := nth vs 3
  (bin .lss v17 v16_1).bind fun v18 =>
  (asB v18).bind fun c18 =>
  if c18 then
    ((prun Tryd.prog (Instr.indexAt 44 v15 v17)).bind fun v19 =>
    (rrun Tryd.prog (Instr.loadAt 5 v19) W1).bind fun v20 =>
    (prun Tryd.prog (do eqGuard .shl 90 (Operand.tmp 21) (Operand.const (Value.int IntKind.u64 8)) n4 (Value.int IntKind.u64 8); binOp .shl 90 n4 (Value.int IntKind.u64 8))).bind fun v22 =>
    (prun Tryd.prog (convert 5 90 v20)).bind fun v24 =>
    (prun Tryd.prog (do eqGuard .or 90 (Operand.tmp 22) (Operand.tmp 24) v22 v24; binOp .or 90 v22 v24)).bind fun v25 =>
    some (Res.norm [v25, v15, v16_1, v17] W1)).bind fun (r : Res) => (r.unblock 1).cont fun vs_1 W2 =>
    let n4_1 := nth vs_1 0
    let v15_1 := nth vs_1 1
    let v16_2 := nth vs_1 2
    let v17_1 := nth vs_1 3
    (bin .add v17_1 (Value.int IntKind.i64 1)).bind fun v26 =>
    some (Res.norm [n4_1, v15_1, v16_2, v26] W2)
  else
  some (Res.exit 0 [n4] W1)
noncomputable def f39 (call : CallF) (b0 : Value) (W0 : World) : Option (Value × World) :=
  ((prun Tryd.prog (Builtin.len_ #[44] 3 #[b0])).bind fun v8 =>
  (bin .lss v8 (Value.int IntKind.i64 1)).bind fun v9 =>
  (asB v9).bind fun b10 =>
  (if b10 = false then (prun Tryd.prog (Builtin.len_ #[44] 3 #[b0])).bind fun v12 =>
    (bin .gtr v12 (Value.int IntKind.i64 8)).bind fun v13 =>
    some (v13, W0)
   else some ((Value.bool true), W0)).bind fun r14 =>
  (asB r14.1).bind fun c14 =>
  if c14 then
    some (Res.ret [(Value.int IntKind.u64 0), (Value.int IntKind.i64 11)] r14.2)
  else
  (prun Tryd.prog (Builtin.len_ #[44] 3 #[b0])).bind fun v16 =>
  (iter (f39.l0 call) [(Value.int IntKind.u64 0), b0, v16, (Value.int IntKind.i64 0)] r14.2).bind fun (r : Res) => (r.unblock 0).cont fun vs_2 W3 =>
  let n4_2 := nth vs_2 0
  some (Res.ret [n4_2, (Value.int IntKind.i64 0)] W3)).bind Res.done
theorem f39.eq (call dfr : CallF) (b0 : Value) (W0 : World) : aFun Tryd.prog call dfr Tryd.f39 f39.ann (ofArgs #[b0]) W0 = f39 call b0 W0 := by kernel_rfl

/-- (*dailies/medium.Medium).read -/
def f40.ann : Ann := (.s .z (.s (.b [0, 1, 2] (.s .z (.c (.s .z .z) (.s .z (.c (.s .z .z) .z))))) (.s .z (.s .z .z))))
noncomputable def f40 (call : CallF) (m0 : Value) (at1 : Value) (n2 : Value) (W0 : World) : Option (Value × World) :=
  (((nilV Tryd.prog m0).bind fun v10 =>
  (prun Tryd.prog (Instr.fieldAt 71 v10 2)).bind fun v11 =>
  (rrun Tryd.prog (Instr.loadAt 4 v11) W0).bind fun v12 =>
  (asB v12).bind fun c8 =>
  if c8 then
    some (Res.ret [(Value.slice none 0 0), (Value.int IntKind.i64 152)] W0)
  else
  (nilV Tryd.prog m0).bind fun v17 =>
  (prun Tryd.prog (Instr.fieldAt 71 v17 1)).bind fun v18 =>
  (rrun Tryd.prog (Instr.loadAt 44 v18) W0).bind fun v19 =>
  (prun Tryd.prog (Builtin.len_ #[44] 3 #[v19])).bind fun v20 =>
  (call 53 #[at1, n2, v20] W0).bind fun r21 =>
  (prun Tryd.prog (Op.unary .not r21.1)).bind fun v22 =>
  (asB v22).bind fun c13 =>
  if c13 then
    some (Res.ret [(Value.slice none 0 0), (Value.int IntKind.i64 151)] r21.2)
  else
  some (Res.norm [m0, at1, n2] r21.2)).bind fun (r : Res) => (r.unblock 0).cont fun vs W1 =>
  let m0_1 := nth vs 0
  let at1_1 := nth vs 1
  let n2_1 := nth vs 2
  (nilV Tryd.prog m0_1).bind fun v25 =>
  (prun Tryd.prog (Instr.fieldAt 71 v25 5)).bind fun v26 =>
  (rrun Tryd.prog (Instr.loadAt 69 v26) W1).bind fun v27 =>
  (prun Tryd.prog (Instr.build 105 #[(0, at1_1), (1, n2_1)])).bind fun v30 =>
  (erun Tryd.prog (Instr.buildSlice 69 1 #[(0, v30)]) W1).bind fun r31 =>
  (erun Tryd.prog (Builtin.append_ #[69, 69] 69 #[v27, r31.1]) r31.2).bind fun r32 =>
  (nilV Tryd.prog m0_1).bind fun v33 =>
  (prun Tryd.prog (Instr.fieldAt 71 v33 5)).bind fun v34 =>
  (erun Tryd.prog (Instr.storeAt 69 v34 r32.1) r32.2).bind fun r =>
  (nilV Tryd.prog m0_1).bind fun v36 =>
  (prun Tryd.prog (Instr.fieldAt 71 v36 1)).bind fun v37 =>
  (rrun Tryd.prog (Instr.loadAt 44 v37) r.2).bind fun v38 =>
  (bin .add at1_1 n2_1).bind fun v42 =>
  (prun Tryd.prog (Instr.sliceAt 44 v38 (some at1_1) (some v42) none)).bind fun v43 =>
  (call 55 #[v43] r.2).bind fun r44 =>
  (call 54 #[r44.1] r44.2).bind fun r45 =>
  some (Res.ret [r45.1, (Value.int IntKind.i64 0)] r45.2)).bind Res.done
theorem f40.eq (call dfr : CallF) (m0 : Value) (at1 : Value) (n2 : Value) (W0 : World) : aFun Tryd.prog call dfr Tryd.f40 f40.ann (ofArgs #[m0, at1, n2]) W0 = f40 call m0 at1 n2 W0 := by kernel_rfl

/-- dailies/crc.More -/
def f50.ann : Ann := (.s .z (.s .z .z))
noncomputable def f50 (call : CallF) (sum0 : Value) (b1 : Value) (W0 : World) : Option (Value × World) :=
  ((prun Tryd.prog (Op.unary .xor sum0)).bind fun v6 =>
  (call 63 #[v6, b1] W0).bind fun r8 =>
  (prun Tryd.prog (Op.unary .xor r8.1)).bind fun v9 =>
  some (Res.ret [v9] r8.2)).bind Res.done
theorem f50.eq (call dfr : CallF) (sum0 : Value) (b1 : Value) (W0 : World) : aFun Tryd.prog call dfr Tryd.f50 f50.ann (ofArgs #[sum0, b1]) W0 = f50 call sum0 b1 W0 := by kernel_rfl

/-- dailies/bits.fits[uint64] -/
def f51.ann : Ann := (.s .z (.s .z .z))
noncomputable def f51 (call : CallF) (v0 : Value) (n1 : Value) (W0 : World) : Option (Value × World) :=
  ((prun Tryd.prog (do eqGuard .shr 90 (Operand.tmp 5) (Operand.tmp 6) v0 n1; binOp .shr 90 v0 n1)).bind fun v7 =>
  (bin .eql v7 (Value.int IntKind.u64 0)).bind fun v8 =>
  some (Res.ret [v8] W0)).bind Res.done
theorem f51.eq (call dfr : CallF) (v0 : Value) (n1 : Value) (W0 : World) : aFun Tryd.prog call dfr Tryd.f51 f51.ann (ofArgs #[v0, n1]) W0 = f51 call v0 n1 W0 := by kernel_rfl

/-- dailies/bits.piece[uint64] -/
def f52.ann : Ann := (.s .z (.s .z .z))
noncomputable def f52 (call : CallF) (v0 : Value) (from1 : Value) (n2 : Value) (W0 : World) : Option (Value × World) :=
  ((prun Tryd.prog (do eqGuard .shr 90 (Operand.tmp 7) (Operand.tmp 8) v0 from1; binOp .shr 90 v0 from1)).bind fun v9 =>
  (prun Tryd.prog (do eqGuard .shl 90 (Operand.const (Value.int IntKind.u64 1)) (Operand.tmp 10) (Value.int IntKind.u64 1) n2; binOp .shl 90 (Value.int IntKind.u64 1) n2)).bind fun v11 =>
  (bin .sub v11 (Value.int IntKind.u64 1)).bind fun v12 =>
  (prun Tryd.prog (do eqGuard .and 90 (Operand.tmp 9) (Operand.tmp 12) v9 v12; binOp .and 90 v9 v12)).bind fun v13 =>
  (prun Tryd.prog (convert 90 5 v13)).bind fun v14 =>
  some (Res.ret [v14] W0.drew)).bind Res.done
theorem f52.eq (call dfr : CallF) (v0 : Value) (from1 : Value) (n2 : Value) (W0 : World) : aFun Tryd.prog call dfr Tryd.f52 f52.ann (ofArgs #[v0, from1, n2]) W0 = f52 call v0 from1 n2 W0 := by kernel_rfl

/-- dailies/medium.lies -/
def f53.ann : Ann := (.s .z (.s .z .z))
noncomputable def f53 (call : CallF) (at0 : Value) (n1 : Value) (size2 : Value) (W0 : World) : Option (Value × World) :=
  ((bin .geq at0 (Value.int IntKind.i64 0)).bind fun v8 =>
  (asB v8).bind fun b9 =>
  (if b9 = true then (bin .geq n1 (Value.int IntKind.i64 0)).bind fun v11 =>
    some (v11, W0)
   else some ((Value.bool false), W0)).bind fun r12 =>
  (asB r12.1).bind fun b13 =>
  (if b13 = true then (bin .leq at0 size2).bind fun v16 =>
    some (v16, r12.2)
   else some ((Value.bool false), r12.2)).bind fun r17 =>
  (asB r17.1).bind fun b18 =>
  (if b18 = true then (bin .sub size2 at0).bind fun v22 =>
    (bin .leq n1 v22).bind fun v23 =>
    some (v23, r17.2)
   else some ((Value.bool false), r17.2)).bind fun r24 =>
  some (Res.ret [r24.1] r24.2)).bind Res.done
theorem f53.eq (call dfr : CallF) (at0 : Value) (n1 : Value) (size2 : Value) (W0 : World) : aFun Tryd.prog call dfr Tryd.f53 f53.ann (ofArgs #[at0, n1, size2]) W0 = f53 call at0 n1 size2 W0 := by kernel_rfl

/-- slices.Clip[[]byte,byte] -/
def f54.ann : Ann := (.s .z (.s .z .z))
noncomputable def f54 (call : CallF) (s0 : Value) (W0 : World) : Option (Value × World) :=
  ((prun Tryd.prog (Builtin.len_ #[44] 3 #[s0])).bind fun v5 =>
  (prun Tryd.prog (Builtin.len_ #[44] 3 #[s0])).bind fun v7 =>
  (prun Tryd.prog (Instr.sliceAt 44 s0 none (some v5) (some v7))).bind fun v8 =>
  some (Res.ret [v8] W0)).bind Res.done
theorem f54.eq (call dfr : CallF) (s0 : Value) (W0 : World) : aFun Tryd.prog call dfr Tryd.f54 f54.ann (ofArgs #[s0]) W0 = f54 call s0 W0 := by kernel_rfl

/-- slices.Clone[[]byte,byte] -/
def f55.ann : Ann := (.s .z (.s (.s .z (.c (.s .z .z) .z)) (.s .z .z)))
noncomputable def f55 (call : CallF) (s0 : Value) (W0 : World) : Option (Value × World) :=
  ((rrun Tryd.prog (do eqGuard .eql 44 (Operand.tmp 3) (Operand.const (Value.slice none 0 0)) s0 (Value.slice none 0 0); binOp .eql 44 s0 (Value.slice none 0 0)) W0).bind fun v4 =>
  (asB v4).bind fun c4 =>
  if c4 then
    some (Res.ret [(Value.slice none 0 0)] W0)
  else
  (erun Tryd.prog (Instr.buildSlice 44 0 #[]) W0).bind fun r5 =>
  (erun Tryd.prog (Builtin.append_ #[44, 44] 44 #[r5.1, s0]) r5.2).bind fun r7 =>
  some (Res.ret [r7.1] r7.2)).bind Res.done
theorem f55.eq (call dfr : CallF) (s0 : Value) (W0 : World) : aFun Tryd.prog call dfr Tryd.f55 f55.ann (ofArgs #[s0]) W0 = f55 call s0 W0 := by kernel_rfl

/-- dailies/crc.divide -/
def f63.ann : Ann := (.s .z (.s .z (.s (.s .z (.b [0] (.l [0, 5, 9, 10, 11] (.s .z (.s (.c .z .z) (.s (.b [0, 5, 9, 10, 11] (.s .z .z)) .z)))))) (.s .z .z))))
noncomputable def f63.l0 (call : CallF) (vs : List Value) (W1 : World) : Option Res :=
  let rest0_1 := nth vs 0
  let t5 := nth vs 1
  let v9 := nth vs 2
  let v10_1 := nth vs 3
  let v11 := nth vs 4
  (bin .lss v11 v10_1).bind fun v12 =>
  (asB v12).bind fun c12 =>
  if c12 then
    ((prun Tryd.prog (Instr.indexAt 44 v9 v11)).bind fun v13 =>
    (rrun Tryd.prog (Instr.loadAt 5 v13) W1).bind fun v14 =>
    (prun Tryd.prog (do eqGuard .shl 64 (Operand.tmp 15) (Operand.const (Value.int IntKind.u64 8)) rest0_1 (Value.int IntKind.u64 8); binOp .shl 64 rest0_1 (Value.int IntKind.u64 8))).bind fun v16 =>
    (prun Tryd.prog (do eqGuard .shr 64 (Operand.tmp 17) (Operand.const (Value.int IntKind.u64 24)) rest0_1 (Value.int IntKind.u64 24); binOp .shr 64 rest0_1 (Value.int IntKind.u64 24))).bind fun v18 =>
    (prun Tryd.prog (convert 64 5 v18)).bind fun v19 =>
    (prun Tryd.prog (do eqGuard .xor 5 (Operand.tmp 19) (Operand.tmp 20) v19 v14; binOp .xor 5 v19 v14)).bind fun v21 =>
    (prun Tryd.prog (Instr.indexAt 112 t5 v21)).bind fun v22 =>
    (rrun Tryd.prog (Instr.loadAt 64 v22) W1).bind fun v23 =>
    (prun Tryd.prog (do eqGuard .xor 64 (Operand.tmp 16) (Operand.tmp 23) v16 v23; binOp .xor 64 v16 v23)).bind fun v24 =>
    some (Res.norm [v24, t5, v9, v10_1, v11] W1)).bind fun (r : Res) => (r.unblock 1).cont fun vs_1 W2 =>
    let rest0_2 := nth vs_1 0
    let t5_1 := nth vs_1 1
    let v9_1 := nth vs_1 2
    let v10_2 := nth vs_1 3
    let v11_1 := nth vs_1 4
    (bin .add v11_1 (Value.int IntKind.i64 1)).bind fun v25 =>
    some (Res.norm [rest0_2, t5_1, v9_1, v10_2, v25] W2)
  else
  some (Res.exit 0 [rest0_1] W1)
noncomputable def f63 (call : CallF) (rest0 : Value) (b1 : Value) (W0 : World) : Option (Value × World) :=
  ((call 64 #[] W0).bind fun r8 =>
  (erun Tryd.prog (Instr.alloc 112 true (.tuple #[])) r8.2).bind fun r5 =>
  (erun Tryd.prog (Instr.storeAt 112 r5.1 r8.1) r5.2).bind fun r =>
  (prun Tryd.prog (Builtin.len_ #[44] 3 #[b1])).bind fun v10 =>
  (iter (f63.l0 call) [rest0, r5.1, b1, v10, (Value.int IntKind.i64 0)] r.2).bind fun (r : Res) => (r.unblock 0).cont fun vs_2 W3 =>
  let rest0_3 := nth vs_2 0
  some (Res.ret [rest0_3] W3)).bind Res.done
theorem f63.eq (call dfr : CallF) (rest0 : Value) (b1 : Value) (W0 : World) : aFun Tryd.prog call dfr Tryd.f63 f63.ann (ofArgs #[rest0, b1]) W0 = f63 call rest0 b1 W0 := by kernel_rfl

/-- dailies/crc.Table -/
def f64.ann : Ann := (.s .z (.s .z (.s (.s .z (.b [0, 1] (.l [0, 1, 4] (.s .z (.s (.c .z .z) (.s (.b [0, 1, 4] (.s .z (.s .z (.s (.s .z (.b [0, 1, 2, 3, 4] (.l [0, 1, 2, 3, 4, 10] (.s .z (.s (.c .z .z) (.s (.b [0, 1, 2, 3, 4, 10] (.s .z (.c .z .z))) .z)))))) .z)))) .z)))))) (.s .z .z))))
noncomputable def f64.l0 (call : CallF) (vs_1 : List Value) (W2 : World) : Option Res :=
  let v0_1 := nth vs_1 0
  let t1_1 := nth vs_1 1
  let i2 := nth vs_1 2
  let v3 := nth vs_1 3
  let v4_1 := nth vs_1 4
  let v10 := nth vs_1 5
  (bin .lss v10 (Value.int IntKind.i64 8)).bind fun v11 =>
  (asB v11).bind fun c11 =>
  if c11 then
    ((prun Tryd.prog (do eqGuard .shr 64 (Operand.tmp 12) (Operand.const (Value.int IntKind.u64 31)) v3 (Value.int IntKind.u64 31); binOp .shr 64 v3 (Value.int IntKind.u64 31))).bind fun v13 =>
    (bin .eql v13 (Value.int IntKind.u32 1)).bind fun v14 =>
    (asB v14).bind fun c14 =>
    if c14 then
      (prun Tryd.prog (do eqGuard .shl 64 (Operand.tmp 15) (Operand.const (Value.int IntKind.u64 1)) v3 (Value.int IntKind.u64 1); binOp .shl 64 v3 (Value.int IntKind.u64 1))).bind fun v16 =>
      (prun Tryd.prog (do eqGuard .xor 64 (Operand.tmp 16) (Operand.const (Value.int IntKind.u32 79764919)) v16 (Value.int IntKind.u32 79764919); binOp .xor 64 v16 (Value.int IntKind.u32 79764919))).bind fun v17 =>
      some (Res.norm [v0_1, t1_1, i2, v17, v4_1, v10] W2)
    else
    (prun Tryd.prog (do eqGuard .shl 64 (Operand.tmp 18) (Operand.const (Value.int IntKind.u64 1)) v3 (Value.int IntKind.u64 1); binOp .shl 64 v3 (Value.int IntKind.u64 1))).bind fun v19 =>
    some (Res.norm [v0_1, t1_1, i2, v19, v4_1, v10] W2)).bind fun (r : Res) => (r.unblock 3).cont fun vs_2 W3 =>
    let v0_2 := nth vs_2 0
    let t1_2 := nth vs_2 1
    let i2_1 := nth vs_2 2
    let v3_1 := nth vs_2 3
    let v4_2 := nth vs_2 4
    let v10_1 := nth vs_2 5
    (bin .add v10_1 (Value.int IntKind.i64 1)).bind fun v20 =>
    some (Res.norm [v0_2, t1_2, i2_1, v3_1, v4_2, v20] W3)
  else
  some (Res.exit 2 [v0_1, t1_1, i2, v3, v4_1] W2)
noncomputable def f64.l1 (call : CallF) (vs : List Value) (W1 : World) : Option Res :=
  let v0 := nth vs 0
  let t1 := nth vs 1
  let v4 := nth vs 2
  (bin .lss v4 (Value.int IntKind.i64 256)).bind fun v5 =>
  (asB v5).bind fun c5 =>
  if c5 then
    ((prun Tryd.prog (convert 3 64 v4)).bind fun v8 =>
    (prun Tryd.prog (do eqGuard .shl 64 (Operand.tmp 8) (Operand.const (Value.int IntKind.u64 24)) v8 (Value.int IntKind.u64 24); binOp .shl 64 v8 (Value.int IntKind.u64 24))).bind fun v9 =>
    (iter (f64.l0 call) [v0, t1, v4, v9, v4, (Value.int IntKind.i64 0)] W1).bind fun (r : Res) => (r.unblock 2).cont fun vs_3 W4 =>
    let v0_3 := nth vs_3 0
    let t1_3 := nth vs_3 1
    let i2_2 := nth vs_3 2
    let v3_2 := nth vs_3 3
    let v4_3 := nth vs_3 4
    (prun Tryd.prog (Instr.indexAt 112 t1_3 i2_2)).bind fun v23 =>
    (erun Tryd.prog (Instr.storeAt 64 v23 v3_2) W4).bind fun r =>
    some (Res.norm [v0_3, t1_3, v4_3] r.2)).bind fun (r : Res) => (r.unblock 1).cont fun vs_4 W5 =>
    let v0_4 := nth vs_4 0
    let t1_4 := nth vs_4 1
    let v4_4 := nth vs_4 2
    (bin .add v4_4 (Value.int IntKind.i64 1)).bind fun v24 =>
    some (Res.norm [v0_4, t1_4, v24] W5)
  else
  some (Res.exit 0 [v0, t1] W1)
noncomputable def f64 (call : CallF)  (W0 : World) : Option (Value × World) :=
  ((erun Tryd.prog (Instr.alloc 112 true (.tuple #[])) W0).bind fun r0 =>
  (erun Tryd.prog (Instr.alloc 112 true (.tuple #[])) r0.2).bind fun r1 =>
  (iter (f64.l1 call) [r0.1, r1.1, (Value.int IntKind.i64 0)] r1.2).bind fun (r : Res) => (r.unblock 0).cont fun vs_5 W6 =>
  let v0_5 := nth vs_5 0
  let t1_5 := nth vs_5 1
  (rrun Tryd.prog (Instr.loadAt 112 t1_5) W6).bind fun v25 =>
  (erun Tryd.prog (Instr.storeAt 112 v0_5 v25) W6).bind fun r_1 =>
  some (Res.ret [v0_5] r_1.2)).bind (Res.doneR Tryd.prog [.cell 0 112])
theorem f64.eq (call dfr : CallF)  (W0 : World) : aFun Tryd.prog call dfr Tryd.f64 f64.ann (ofArgs #[]) W0 = f64 call  W0 := by kernel_rfl

def anns (f : FuncId) : Ann := match f with
  | 7 => f7.ann
  | 9 => f9.ann
  | 10 => f10.ann
  | 11 => f11.ann
  | 12 => f12.ann
  | 13 => f13.ann
  | 14 => f14.ann
  | 15 => f15.ann
  | 17 => f17.ann
  | 18 => f18.ann
  | 20 => f20.ann
  | 21 => f21.ann
  | 22 => f22.ann
  | 23 => f23.ann
  | 26 => f26.ann
  | 27 => f27.ann
  | 28 => f28.ann
  | 29 => f29.ann
  | 30 => f30.ann
  | 31 => f31.ann
  | 32 => f32.ann
  | 35 => f35.ann
  | 36 => f36.ann
  | 37 => f37.ann
  | 38 => f38.ann
  | 39 => f39.ann
  | 40 => f40.ann
  | 50 => f50.ann
  | 51 => f51.ann
  | 52 => f52.ann
  | 53 => f53.ann
  | 54 => f54.ann
  | 55 => f55.ann
  | 63 => f63.ann
  | 64 => f64.ann
  | _ => .z
noncomputable abbrev R (prim : Prim) : CallF := Go.Sh.run Tryd.prog anns prim
theorem f9.run {prim : Prim} {w : World} {r : Value × World} (hn : prim.call 9 #[] w = none) (h : f9 (R prim)  w = some r) : R prim 9 #[] w = some r := run_body Tryd.func9 (by kernel_rfl) hn (by rw [show anns 9 = f9.ann from rfl, f9.eq]; exact h)
theorem f10.run {prim : Prim} {m0 : Value} {w : World} {r : Value × World} (hn : prim.call 10 #[m0] w = none) (h : f10 (R prim) prim.dfr m0 w = some r) : R prim 10 #[m0] w = some r := run_body Tryd.func10 (by kernel_rfl) hn (by rw [show anns 10 = f10.ann from rfl, f10.eq]; exact h)
theorem f11.run {prim : Prim} {w0 : Value} {w : World} {r : Value × World} (hn : prim.call 11 #[w0] w = none) (h : f11 (R prim) w0 w = some r) : R prim 11 #[w0] w = some r := run_body Tryd.func11 (by kernel_rfl) hn (by rw [show anns 11 = f11.ann from rfl, f11.eq]; exact h)
theorem f12.run {prim : Prim} {r0 : Value} {w : World} {r : Value × World} (hn : prim.call 12 #[r0] w = none) (h : f12 (R prim) r0 w = some r) : R prim 12 #[r0] w = some r := run_body Tryd.func12 (by kernel_rfl) hn (by rw [show anns 12 = f12.ann from rfl, f12.eq]; exact h)
theorem f13.run {prim : Prim} {r0 : Value} {w : World} {r : Value × World} (hn : prim.call 13 #[r0] w = none) (h : f13 (R prim) r0 w = some r) : R prim 13 #[r0] w = some r := run_body Tryd.func13 (by kernel_rfl) hn (by rw [show anns 13 = f13.ann from rfl, f13.eq]; exact h)
theorem f14.run {prim : Prim} {l0 : Value} {w : World} {r : Value × World} (hn : prim.call 14 #[l0] w = none) (h : f14 (R prim) l0 w = some r) : R prim 14 #[l0] w = some r := run_body Tryd.func14 (by kernel_rfl) hn (by rw [show anns 14 = f14.ann from rfl, f14.eq]; exact h)
theorem f15.run {prim : Prim} {m0 b1 : Value} {w : World} {r : Value × World} (hn : prim.call 15 #[m0, b1] w = none) (h : f15 (R prim) prim.dfr m0 b1 w = some r) : R prim 15 #[m0, b1] w = some r := run_body Tryd.func15 (by kernel_rfl) hn (by rw [show anns 15 = f15.ann from rfl, f15.eq]; exact h)
theorem f18.run {prim : Prim} {m0 : Value} {w : World} {r : Value × World} (hn : prim.call 18 #[m0] w = none) (h : f18 (R prim) prim.dfr m0 w = some r) : R prim 18 #[m0] w = some r := run_body Tryd.func18 (by kernel_rfl) hn (by rw [show anns 18 = f18.ann from rfl, f18.eq]; exact h)
theorem f20.run {prim : Prim} {r0 at1 e2 : Value} {w : World} {r : Value × World} (hn : prim.call 20 #[r0, at1, e2] w = none) (h : f20 (R prim) r0 at1 e2 w = some r) : R prim 20 #[r0, at1, e2] w = some r := run_body Tryd.func20 (by kernel_rfl) hn (by rw [show anns 20 = f20.ann from rfl, f20.eq]; exact h)
theorem f21.run {prim : Prim} {records0 at1 : Value} {w : World} {r : Value × World} (hn : prim.call 21 #[records0, at1] w = none) (h : f21 (R prim) records0 at1 w = some r) : R prim 21 #[records0, at1] w = some r := run_body Tryd.func21 (by kernel_rfl) hn (by rw [show anns 21 = f21.ann from rfl, f21.eq]; exact h)
theorem f22.run {prim : Prim} {m0 at1 n2 : Value} {w : World} {r : Value × World} (hn : prim.call 22 #[m0, at1, n2] w = none) (h : f22 (R prim) m0 at1 n2 w = some r) : R prim 22 #[m0, at1, n2] w = some r := run_body Tryd.func22 (by kernel_rfl) hn (by rw [show anns 22 = f22.ann from rfl, f22.eq]; exact h)
theorem f23.run {prim : Prim} {a0 b1 : Value} {w : World} {r : Value × World} (hn : prim.call 23 #[a0, b1] w = none) (h : f23 (R prim) a0 b1 w = some r) : R prim 23 #[a0, b1] w = some r := run_body Tryd.func23 (by kernel_rfl) hn (by rw [show anns 23 = f23.ann from rfl, f23.eq]; exact h)
theorem f26.run {prim : Prim} {t0 : Value} {w : World} {r : Value × World} (hn : prim.call 26 #[t0] w = none) (h : f26 (R prim) t0 w = some r) : R prim 26 #[t0] w = some r := run_body Tryd.func26 (by kernel_rfl) hn (by rw [show anns 26 = f26.ann from rfl, f26.eq]; exact h)
theorem f27.run {prim : Prim} {parts0 : Value} {w : World} {r : Value × World} (hn : prim.call 27 #[parts0] w = none) (h : f27 (R prim) parts0 w = some r) : R prim 27 #[parts0] w = some r := run_body Tryd.func27 (by kernel_rfl) hn (by rw [show anns 27 = f27.ann from rfl, f27.eq]; exact h)
theorem f28.run {prim : Prim} {n0 : Value} {w : World} {r : Value × World} (hn : prim.call 28 #[n0] w = none) (h : f28 (R prim) n0 w = some r) : R prim 28 #[n0] w = some r := run_body Tryd.func28 (by kernel_rfl) hn (by rw [show anns 28 = f28.ann from rfl, f28.eq]; exact h)
theorem f29.run {prim : Prim} {b0 : Value} {w : World} {r : Value × World} (hn : prim.call 29 #[b0] w = none) (h : f29 (R prim) b0 w = some r) : R prim 29 #[b0] w = some r := run_body Tryd.func29 (by kernel_rfl) hn (by rw [show anns 29 = f29.ann from rfl, f29.eq]; exact h)
theorem f30.run {prim : Prim} {yield0 v1 v2 v3 : Value} {w : World} {r : Value × World} (hn : prim.call 30 #[yield0, v1, v2, v3] w = none) (h : f30 (R prim) yield0 v1 v2 v3 w = some r) : R prim 30 #[yield0, v1, v2, v3] w = some r := run_body Tryd.func30 (by kernel_rfl) hn (by rw [show anns 30 = f30.ann from rfl, f30.eq]; exact h)
theorem f31.run {prim : Prim} {i0 n1 : Value} {w : World} {r : Value × World} (hn : prim.call 31 #[i0, n1] w = none) (h : f31 (R prim) i0 n1 w = some r) : R prim 31 #[i0, n1] w = some r := run_body Tryd.func31 (by kernel_rfl) hn (by rw [show anns 31 = f31.ann from rfl, f31.eq]; exact h)
theorem f32.run {prim : Prim} {m0 at1 n2 : Value} {w : World} {r : Value × World} (hn : prim.call 32 #[m0, at1, n2] w = none) (h : f32 (R prim) prim.dfr m0 at1 n2 w = some r) : R prim 32 #[m0, at1, n2] w = some r := run_body Tryd.func32 (by kernel_rfl) hn (by rw [show anns 32 = f32.ann from rfl, f32.eq]; exact h)
theorem f36.run {prim : Prim} {s0 sep1 : Value} {w : World} {r : Value × World} (hn : prim.call 36 #[s0, sep1] w = none) (h : f36 (R prim) s0 sep1 w = some r) : R prim 36 #[s0, sep1] w = some r := run_body Tryd.func36 (by kernel_rfl) hn (by rw [show anns 36 = f36.ann from rfl, f36.eq]; exact h)
theorem f37.run {prim : Prim} {b0 : Value} {w : World} {r : Value × World} (hn : prim.call 37 #[b0] w = none) (h : f37 (R prim) b0 w = some r) : R prim 37 #[b0] w = some r := run_body Tryd.func37 (by kernel_rfl) hn (by rw [show anns 37 = f37.ann from rfl, f37.eq]; exact h)
theorem f38.run {prim : Prim} {n0 bytes1 : Value} {w : World} {r : Value × World} (hn : prim.call 38 #[n0, bytes1] w = none) (h : f38 (R prim) n0 bytes1 w = some r) : R prim 38 #[n0, bytes1] w = some r := run_body Tryd.func38 (by kernel_rfl) hn (by rw [show anns 38 = f38.ann from rfl, f38.eq]; exact h)
theorem f39.run {prim : Prim} {b0 : Value} {w : World} {r : Value × World} (hn : prim.call 39 #[b0] w = none) (h : f39 (R prim) b0 w = some r) : R prim 39 #[b0] w = some r := run_body Tryd.func39 (by kernel_rfl) hn (by rw [show anns 39 = f39.ann from rfl, f39.eq]; exact h)
theorem f40.run {prim : Prim} {m0 at1 n2 : Value} {w : World} {r : Value × World} (hn : prim.call 40 #[m0, at1, n2] w = none) (h : f40 (R prim) m0 at1 n2 w = some r) : R prim 40 #[m0, at1, n2] w = some r := run_body Tryd.func40 (by kernel_rfl) hn (by rw [show anns 40 = f40.ann from rfl, f40.eq]; exact h)
theorem f50.run {prim : Prim} {sum0 b1 : Value} {w : World} {r : Value × World} (hn : prim.call 50 #[sum0, b1] w = none) (h : f50 (R prim) sum0 b1 w = some r) : R prim 50 #[sum0, b1] w = some r := run_body Tryd.func50 (by kernel_rfl) hn (by rw [show anns 50 = f50.ann from rfl, f50.eq]; exact h)
theorem f51.run {prim : Prim} {v0 n1 : Value} {w : World} {r : Value × World} (hn : prim.call 51 #[v0, n1] w = none) (h : f51 (R prim) v0 n1 w = some r) : R prim 51 #[v0, n1] w = some r := run_body Tryd.func51 (by kernel_rfl) hn (by rw [show anns 51 = f51.ann from rfl, f51.eq]; exact h)
theorem f52.run {prim : Prim} {v0 from1 n2 : Value} {w : World} {r : Value × World} (hn : prim.call 52 #[v0, from1, n2] w = none) (h : f52 (R prim) v0 from1 n2 w = some r) : R prim 52 #[v0, from1, n2] w = some r := run_body Tryd.func52 (by kernel_rfl) hn (by rw [show anns 52 = f52.ann from rfl, f52.eq]; exact h)
theorem f53.run {prim : Prim} {at0 n1 size2 : Value} {w : World} {r : Value × World} (hn : prim.call 53 #[at0, n1, size2] w = none) (h : f53 (R prim) at0 n1 size2 w = some r) : R prim 53 #[at0, n1, size2] w = some r := run_body Tryd.func53 (by kernel_rfl) hn (by rw [show anns 53 = f53.ann from rfl, f53.eq]; exact h)
theorem f54.run {prim : Prim} {s0 : Value} {w : World} {r : Value × World} (hn : prim.call 54 #[s0] w = none) (h : f54 (R prim) s0 w = some r) : R prim 54 #[s0] w = some r := run_body Tryd.func54 (by kernel_rfl) hn (by rw [show anns 54 = f54.ann from rfl, f54.eq]; exact h)
theorem f55.run {prim : Prim} {s0 : Value} {w : World} {r : Value × World} (hn : prim.call 55 #[s0] w = none) (h : f55 (R prim) s0 w = some r) : R prim 55 #[s0] w = some r := run_body Tryd.func55 (by kernel_rfl) hn (by rw [show anns 55 = f55.ann from rfl, f55.eq]; exact h)
theorem f63.run {prim : Prim} {rest0 b1 : Value} {w : World} {r : Value × World} (hn : prim.call 63 #[rest0, b1] w = none) (h : f63 (R prim) rest0 b1 w = some r) : R prim 63 #[rest0, b1] w = some r := run_body Tryd.func63 (by kernel_rfl) hn (by rw [show anns 63 = f63.ann from rfl, f63.eq]; exact h)
theorem f64.run {prim : Prim} {w : World} {r : Value × World} (hn : prim.call 64 #[] w = none) (h : f64 (R prim)  w = some r) : R prim 64 #[] w = some r := run_body Tryd.func64 (by kernel_rfl) hn (by rw [show anns 64 = f64.ann from rfl, f64.eq]; exact h)

/-! ### facts of the types -/
noncomputable def inf (t : Nat) : TypeInfo := (Tryd.prog.info? t).getD default
@[simp] theorem len9 (ty : TypeId) (s : ByteArray) : prun Tryd.prog (Builtin.len_ #[9] ty #[.string s]) = some (.int .i64 s.size) := len_string Tryd.underlying9 ty s
@[simp] theorem len44 (ty : TypeId) (a : Option Addr) (n c : Nat) : prun Tryd.prog (Builtin.len_ #[44] ty #[.slice a n c]) = some (.int .i64 n) := len_slice Tryd.underlying44 ty a n c
@[simp] theorem len46 (ty : TypeId) (a : Option Addr) (n c : Nat) : prun Tryd.prog (Builtin.len_ #[46] ty #[.slice a n c]) = some (.int .i64 n) := len_slice Tryd.underlying46 ty a n c
@[simp] theorem len86 (ty : TypeId) (a : Option Addr) (n c : Nat) : prun Tryd.prog (Builtin.len_ #[86] ty #[.slice a n c]) = some (.int .i64 n) := len_slice Tryd.underlying86 ty a n c
@[simp] theorem ld3 (a : Addr) (w : World) : rrun Tryd.prog (Instr.loadAt 3 (.pointer (some a))) w = w.cell? a := load_one Tryd.underlying3 (by kernel_rfl) a w
@[simp] theorem ld4 (a : Addr) (w : World) : rrun Tryd.prog (Instr.loadAt 4 (.pointer (some a))) w = w.cell? a := load_one Tryd.underlying4 (by kernel_rfl) a w
@[simp] theorem ld5 (a : Addr) (w : World) : rrun Tryd.prog (Instr.loadAt 5 (.pointer (some a))) w = w.cell? a := load_one Tryd.underlying5 (by kernel_rfl) a w
@[simp] theorem ld9 (a : Addr) (w : World) : rrun Tryd.prog (Instr.loadAt 9 (.pointer (some a))) w = w.cell? a := load_one Tryd.underlying9 (by kernel_rfl) a w
@[simp] theorem ld23 (a : Addr) (w : World) : rrun Tryd.prog (Instr.loadAt 23 (.pointer (some a))) w = w.cell? a := load_one Tryd.underlying23 (by kernel_rfl) a w
@[simp] theorem ld31 (a : Addr) (w : World) : rrun Tryd.prog (Instr.loadAt 31 (.pointer (some a))) w = w.cell? a := load_one Tryd.underlying31 (by kernel_rfl) a w
@[simp] theorem ld35 (a : Addr) (w : World) : rrun Tryd.prog (Instr.loadAt 35 (.pointer (some a))) w = w.cell? a := load_one Tryd.underlying35 (by kernel_rfl) a w
theorem inf39 : Tryd.prog.info? 39 = some (inf 39) := by kernel_rfl
theorem size39 : (inf 39).size = 3 := by kernel_rfl
theorem ld39 {a : Addr} {w : World} {v0 v1 v2 : Value} (h0 : w.cell? (a.add 0) = some v0) (h1 : w.cell? (a.add 1) = some v1) (h2 : w.cell? (a.add 2) = some v2) : rrun Tryd.prog (Instr.loadAt 39 (.pointer (some a))) w = some (.agg #[v0, v1, v2]) := load_agg (vs := [v0, v1, v2]) inf39 (by kernel_rfl) (by rw [size39]; rfl) ⟨h0, h1, h2, trivial⟩
@[simp] theorem ld44 (a : Addr) (w : World) : rrun Tryd.prog (Instr.loadAt 44 (.pointer (some a))) w = w.cell? a := load_one Tryd.underlying44 (by kernel_rfl) a w
@[simp] theorem ld46 (a : Addr) (w : World) : rrun Tryd.prog (Instr.loadAt 46 (.pointer (some a))) w = w.cell? a := load_one Tryd.underlying46 (by kernel_rfl) a w
@[simp] theorem ld57 (a : Addr) (w : World) : rrun Tryd.prog (Instr.loadAt 57 (.pointer (some a))) w = w.cell? a := load_one Tryd.underlying57 (by kernel_rfl) a w
@[simp] theorem ld64 (a : Addr) (w : World) : rrun Tryd.prog (Instr.loadAt 64 (.pointer (some a))) w = w.cell? a := load_one Tryd.underlying64 (by kernel_rfl) a w
@[simp] theorem ld69 (a : Addr) (w : World) : rrun Tryd.prog (Instr.loadAt 69 (.pointer (some a))) w = w.cell? a := load_one Tryd.underlying69 (by kernel_rfl) a w
theorem inf3 : Tryd.prog.info? 3 = some (inf 3) := by kernel_rfl
theorem size3 : (inf 3).size = 1 := by kernel_rfl
theorem st3 {a : Addr} {w : World} {v u : Value} (hv : v.cells = #[v]) (ho : v.oneCell' = true) (hc : w.cell? a = some u) (hf : w.frozen? a = false) : erun Tryd.prog (Instr.storeAt 3 (.pointer (some a)) v) w = some ((), w.setCell a v) := store_one inf3 size3 hv ho hc hf
theorem inf4 : Tryd.prog.info? 4 = some (inf 4) := by kernel_rfl
theorem size4 : (inf 4).size = 1 := by kernel_rfl
theorem st4 {a : Addr} {w : World} {v u : Value} (hv : v.cells = #[v]) (ho : v.oneCell' = true) (hc : w.cell? a = some u) (hf : w.frozen? a = false) : erun Tryd.prog (Instr.storeAt 4 (.pointer (some a)) v) w = some ((), w.setCell a v) := store_one inf4 size4 hv ho hc hf
theorem inf5 : Tryd.prog.info? 5 = some (inf 5) := by kernel_rfl
theorem size5 : (inf 5).size = 1 := by kernel_rfl
theorem inf27 : Tryd.prog.info? 27 = some (inf 27) := by kernel_rfl
theorem size27 : (inf 27).size = 1 := by kernel_rfl
theorem st27 {a : Addr} {w : World} {v u : Value} (hv : v.cells = #[v]) (ho : v.oneCell' = true) (hc : w.cell? a = some u) (hf : w.frozen? a = false) : erun Tryd.prog (Instr.storeAt 27 (.pointer (some a)) v) w = some ((), w.setCell a v) := store_one inf27 size27 hv ho hc hf
theorem inf44 : Tryd.prog.info? 44 = some (inf 44) := by kernel_rfl
theorem size44 : (inf 44).size = 1 := by kernel_rfl
theorem st44 {a : Addr} {w : World} {v u : Value} (hv : v.cells = #[v]) (ho : v.oneCell' = true) (hc : w.cell? a = some u) (hf : w.frozen? a = false) : erun Tryd.prog (Instr.storeAt 44 (.pointer (some a)) v) w = some ((), w.setCell a v) := store_one inf44 size44 hv ho hc hf
theorem inf69 : Tryd.prog.info? 69 = some (inf 69) := by kernel_rfl
theorem size69 : (inf 69).size = 1 := by kernel_rfl
theorem st69 {a : Addr} {w : World} {v u : Value} (hv : v.cells = #[v]) (ho : v.oneCell' = true) (hc : w.cell? a = some u) (hf : w.frozen? a = false) : erun Tryd.prog (Instr.storeAt 69 (.pointer (some a)) v) w = some ((), w.setCell a v) := store_one inf69 size69 hv ho hc hf
@[simp] theorem fa25_0 (a : Addr) : prun Tryd.prog (Instr.fieldAt 25 (.pointer (some a)) 0) = some (.pointer (some (a.add 0))) := id (by kernel_rfl)
@[simp] theorem fa25_1 (a : Addr) : prun Tryd.prog (Instr.fieldAt 25 (.pointer (some a)) 1) = some (.pointer (some (a.add 1))) := id (by kernel_rfl)
@[simp] theorem fa25_2 (a : Addr) : prun Tryd.prog (Instr.fieldAt 25 (.pointer (some a)) 2) = some (.pointer (some (a.add 2))) := id (by kernel_rfl)
@[simp] theorem fa39_1 (a : Addr) : prun Tryd.prog (Instr.fieldAt 39 (.pointer (some a)) 1) = some (.pointer (some (a.add 1))) := id (by kernel_rfl)
@[simp] theorem fa48_0 (a : Addr) : prun Tryd.prog (Instr.fieldAt 48 (.pointer (some a)) 0) = some (.pointer (some (a.add 0))) := id (by kernel_rfl)
@[simp] theorem fa48_1 (a : Addr) : prun Tryd.prog (Instr.fieldAt 48 (.pointer (some a)) 1) = some (.pointer (some (a.add 1))) := id (by kernel_rfl)
@[simp] theorem fa48_2 (a : Addr) : prun Tryd.prog (Instr.fieldAt 48 (.pointer (some a)) 2) = some (.pointer (some (a.add 2))) := id (by kernel_rfl)
@[simp] theorem fa50_0 (a : Addr) : prun Tryd.prog (Instr.fieldAt 50 (.pointer (some a)) 0) = some (.pointer (some (a.add 0))) := id (by kernel_rfl)
@[simp] theorem fa50_2 (a : Addr) : prun Tryd.prog (Instr.fieldAt 50 (.pointer (some a)) 2) = some (.pointer (some (a.add 4))) := id (by kernel_rfl)
@[simp] theorem fa50_3 (a : Addr) : prun Tryd.prog (Instr.fieldAt 50 (.pointer (some a)) 3) = some (.pointer (some (a.add 5))) := id (by kernel_rfl)
@[simp] theorem fa50_4 (a : Addr) : prun Tryd.prog (Instr.fieldAt 50 (.pointer (some a)) 4) = some (.pointer (some (a.add 6))) := id (by kernel_rfl)
@[simp] theorem fa71_0 (a : Addr) : prun Tryd.prog (Instr.fieldAt 71 (.pointer (some a)) 0) = some (.pointer (some (a.add 0))) := id (by kernel_rfl)
@[simp] theorem fa71_1 (a : Addr) : prun Tryd.prog (Instr.fieldAt 71 (.pointer (some a)) 1) = some (.pointer (some (a.add 2))) := id (by kernel_rfl)
@[simp] theorem fa71_2 (a : Addr) : prun Tryd.prog (Instr.fieldAt 71 (.pointer (some a)) 2) = some (.pointer (some (a.add 3))) := id (by kernel_rfl)
@[simp] theorem fa71_3 (a : Addr) : prun Tryd.prog (Instr.fieldAt 71 (.pointer (some a)) 3) = some (.pointer (some (a.add 4))) := id (by kernel_rfl)
@[simp] theorem fa71_4 (a : Addr) : prun Tryd.prog (Instr.fieldAt 71 (.pointer (some a)) 4) = some (.pointer (some (a.add 5))) := id (by kernel_rfl)
@[simp] theorem fa71_5 (a : Addr) : prun Tryd.prog (Instr.fieldAt 71 (.pointer (some a)) 5) = some (.pointer (some (a.add 6))) := id (by kernel_rfl)
@[simp] theorem fa83_0 (a : Addr) : prun Tryd.prog (Instr.fieldAt 83 (.pointer (some a)) 0) = some (.pointer (some (a.add 0))) := id (by kernel_rfl)
@[simp] theorem fa83_1 (a : Addr) : prun Tryd.prog (Instr.fieldAt 83 (.pointer (some a)) 1) = some (.pointer (some (a.add 1))) := id (by kernel_rfl)
theorem ix44 (a : Addr) (n c : Nat) (k : IntKind) (j : Int) (h0 : 0 ≤ j) (h1 : j < n) : prun Tryd.prog (Instr.indexAt 44 (.slice (some a) n c) (.int k j)) = some (.pointer (some (a.add (j.toNat * 1)))) := by
  have h := index_slice Tryd.underlying44 inf5 a n c k j h0 h1
  rwa [size5] at h
theorem ix86 (a : Addr) (n c : Nat) (k : IntKind) (j : Int) (h0 : 0 ≤ j) (h1 : j < n) : prun Tryd.prog (Instr.indexAt 86 (.slice (some a) n c) (.int k j)) = some (.pointer (some (a.add (j.toNat * 1)))) := by
  have h := index_slice Tryd.underlying86 inf44 a n c k j h0 h1
  rwa [size44] at h
theorem sl44 (a : Option Addr) (n c : Nat) (lo hi mx : Option Value) (l h m : Nat) (hb : prun Tryd.prog (Instr.sliceBounds true n c lo hi mx) = some (l, h, m)) : prun Tryd.prog (Instr.sliceAt 44 (.slice a n c) lo hi mx) = some (.slice (if m = l then a else a.map (·.add (l * 1))) (h - l) (m - l)) := by
  have h := slice_at Tryd.underlying44 inf5 a n c lo hi mx l h m hb
  rwa [size5] at h
theorem sl86 (a : Option Addr) (n c : Nat) (lo hi mx : Option Value) (l h m : Nat) (hb : prun Tryd.prog (Instr.sliceBounds true n c lo hi mx) = some (l, h, m)) : prun Tryd.prog (Instr.sliceAt 86 (.slice a n c) lo hi mx) = some (.slice (if m = l then a else a.map (·.add (l * 1))) (h - l) (m - l)) := by
  have h := slice_at Tryd.underlying86 inf44 a n c lo hi mx l h m hb
  rwa [size44] at h
theorem zero5 : (inf 5).zero = some (.int .u8 0) := by kernel_rfl
theorem bytes5 : (inf 5).bytes = 1 := id (by kernel_rfl)
theorem ap44 {w : World} {base : Nat} {ty : TypeId} {v : Value} {n : Nat} {xs : List Value} (hown : w.ownsRow base 5 1 v n xs) {A : Option Addr} {m c : Nat} {news : List Value} (hl : news.length = m * 1) (hr : Rd w A news) (hnil : A = none → c = 0) (h1 : ∀ u ∈ news, u.oneCell' = true) (h63 : n + m ≤ maxLen) (hbytes : (n + m) * 1 ≤ 140737488355328) (hbase : base ≤ w.heap.size) :
    ∃ v' w', erun Tryd.prog (Builtin.append_ #[44, 44] ty #[v, .slice A m c]) w = some (v', w') ∧ w'.ownsRow base 5 1 v' (n + m) (xs ++ news) ∧ w.grownBy w' v.ownBlock := e_append Tryd.underlying44 inf5 zero5 size5 bytes5 rfl (by decide) hown hl hr hnil h1 h63 hbytes hbase
theorem inf105 : Tryd.prog.info? 105 = some (inf 105) := by kernel_rfl
theorem size105 : (inf 105).size = 2 := by kernel_rfl
theorem zero105 : (inf 105).zero = some (.agg #[(.int .i64 0), (.int .i64 0)]) := by kernel_rfl
theorem bytes105 : (inf 105).bytes = 16 := id (by kernel_rfl)
theorem mk44 {w : World} (base : Nat) (n : Nat) (hbytes : 1 * n ≤ 281474976710656) (h63 : n ≤ maxLen) (hbase : base ≤ w.heap.size) :
    ∃ w', erun Tryd.prog (Instr.makeSlice 44 (.int .i64 (n : Int)) (.int .i64 (n : Int))) w = some (.slice (some ⟨w.heap.size, 0, none⟩) n n, w') ∧ w'.ownsRow base 5 1 (.slice (some ⟨w.heap.size, 0, none⟩) n n) n (madeCells ((.int .u8 0) : Value).cells (n * 1)).toList ∧ w.grownBy w' none := e_make Tryd.underlying44 inf5 zero5 size5 .i64 .i64 n (by rw [bytes5]; exact hbytes) h63 hbase
@[simp] theorem bs44_0 (w : World) : erun Tryd.prog (Instr.buildSlice 44 0 #[]) w = some (.slice (some ⟨w.heap.size, 0, none⟩) 0 0, w.alloc (.cells #[] 5)) := id (by kernel_rfl)
@[simp] theorem bs69_0 (w : World) : erun Tryd.prog (Instr.buildSlice 69 0 #[]) w = some (.slice (some ⟨w.heap.size, 0, none⟩) 0 0, w.alloc (.cells #[] 105)) := id (by kernel_rfl)
@[simp] theorem bs86_0 (w : World) : erun Tryd.prog (Instr.buildSlice 86 0 #[]) w = some (.slice (some ⟨w.heap.size, 0, none⟩) 0 0, w.alloc (.cells #[] 44)) := id (by kernel_rfl)
theorem tx44_9 {w : World} {A : Option Addr} {c : Nat} {l : List UInt8} {n : Nat} (hn : l.length = n) (hr : Rd w A (bv l)) : rrun Tryd.prog (convert 44 9 (.slice A n c)) w = some (.string ⟨l.toArray⟩) := e_text Tryd.underlying44 Tryd.underlying5 Tryd.underlying9 hn hr
@[simp] theorem eql9_s (x y : Operand) (a b : ByteArray) : prun Tryd.prog (do eqGuard .eql 9 x y (.string a) (.string b); binOp .eql 9 (.string a) (.string b)) = some (.bool (a.toList == b.toList)) := id (by kernel_rfl)
@[simp] theorem eql44_some (x y : Operand) (a : Addr) (n c : Nat) (w : World) : rrun Tryd.prog (do eqGuard .eql 44 x y (.slice (some a) n c) (.slice none 0 0); binOp .eql 44 (.slice (some a) n c) (.slice none 0 0)) w = some (.bool false) := id (by kernel_rfl)
@[simp] theorem eql44_none (x y : Operand) (w : World) : rrun Tryd.prog (do eqGuard .eql 44 x y (.slice none 0 0) (.slice none 0 0); binOp .eql 44 (.slice none 0 0) (.slice none 0 0)) w = some (.bool true) := id (by kernel_rfl)
@[simp] theorem mi9 (x : Value) : prun Tryd.prog (Instr.makeInterface 9 x) = some (.iface 9 x) := id (by kernel_rfl)
end Go.Sh.YtodkllcibbidoaaDoor

namespace Go.Sh.YtodkllcibbidoaaDoor
open Go Go.Proofs Go.RowKit
set_option linter.unusedVariables false
set_option linter.unusedSimpArgs false
noncomputable abbrev C := R mu

/-- spans, as cells -/
def sc (g : List (Int × Int)) : List Value := g.flatMap fun p => [.int .i64 p.1, .int .i64 p.2]
/-- a medium: its lock's state, its bytes, how it stands, its log -/
structure Med (w : World) (base M : Nat) (s : Int) (B : Value) (l : List UInt8) (dead : Bool) (armed keep : Int) (L : Value) (g : List (Int × Int)) : Prop where
  blk : Blk w M 71 [.int .i32 s, .int .u32 0, B, .bool dead, .int .i64 armed, .int .i64 keep, L]
  hM : base ≤ M
  row : w.ownsRow base 5 1 B l.length (bv l)
  log : w.ownsRow base 105 2 L g.length (sc g)
/-- the blocks that it has -/
def fp (M : Nat) (B L : Value) : Nat → Prop := fun k => k = M ∨ B.ownBlock = some k ∨ L.ownBlock = some k
section
variable {w : World} {base M : Nat} {s : Int} {B : Value} {l : List UInt8} {dead : Bool} {armed keep : Int} {L : Value} {g : List (Int × Int)}
theorem Med.neB (h : Med w base M s B l dead armed keep L g) : B.ownBlock ≠ some M := own_blk_ne h.row h.blk (by decide)
theorem Med.neL (h : Med w base M s B l dead armed keep L g) : L.ownBlock ≠ some M := own_blk_ne h.log h.blk (by decide)
theorem Med.neBL (h : Med w base M s B l dead armed keep L g) {k : Nat} (h1 : B.ownBlock = some k) (h2 : L.ownBlock = some k) : False := own_own_ne h.row h.log (by decide) h1 h2
theorem Med.grew (h : Med w base M s B l dead armed keep L g) {S : Nat → Prop} {w' : World} (hg : Grew S w w') (hn : ∀ k, fp M B L k → ¬ S k) : Med w' base M s B l dead armed keep L g :=
  ⟨h.blk.grew hg (hn _ (.inl rfl)), h.hM, own_grew h.row hg fun k hk => hn k (.inr (.inl hk)), own_grew h.log hg fun k hk => hn k (.inr (.inr hk))⟩
theorem Med.fpge (h : Med w base M s B l dead armed keep L g) : ∀ k, fp M B L k → base ≤ k ∧ k < w.heap.size := by
  rintro k (rfl | hk | hk)
  · exact ⟨h.hM, h.blk.lt⟩
  · exact h.row.lt k hk
  · exact h.log.lt k hk
/-- a write of one of its own cells -/
theorem Med.write (h : Med w base M s B l dead armed keep L g) (i : Nat) (v : Value) {s' : Int} {dead' : Bool} {armed' keep' : Int}
    (hc : ([.int .i32 s, .int .u32 0, B, .bool dead, .int .i64 armed, .int .i64 keep, L] : List Value).set i v = [.int .i32 s', .int .u32 0, B, .bool dead', .int .i64 armed', .int .i64 keep', L]) :
    Med (w.setCell ⟨M, i, none⟩ v) base M s' B l dead' armed' keep' L g ∧ Grew (fp M B L) w (w.setCell ⟨M, i, none⟩ v) :=
  ⟨⟨h.blk.store2 i v hc, h.hM, h.row.kept (grown_set M i v) (.inr h.neB), h.log.kept (grown_set M i v) (.inr h.neL)⟩, grew_set w i v (.inl rfl)⟩
theorem Med.lock (h : Med w base M 0 B l dead armed keep L g) : ∃ w1, C 24 #[.pointer (some ⟨M, 0, none⟩)] w = some (.tuple #[], w1) ∧ Med w1 base M 1 B l dead armed keep L g ∧ Grew (fp M B L) w w1 :=
  ⟨_, run_prim (mu_lock (h.blk.cell_eq 0 rfl) (h.blk.frozen 0)), h.write 0 _ rfl⟩
theorem Med.unlock (h : Med w base M 1 B l dead armed keep L g) : ∃ w1, mu.dfr 25 #[.pointer (some ⟨M, 0, none⟩)] w = some (.tuple #[], w1) ∧ Med w1 base M 0 B l dead armed keep L g ∧ Grew (fp M B L) w w1 :=
  ⟨_, mu_unlock (h.blk.cell_eq 0 rfl) (h.blk.frozen 0), h.write 0 _ rfl⟩
theorem Med.unlock2 (h : Med w base M 1 B l dead armed keep L g) : ∃ w1, mu.dfr 25 #[.pointer (some ⟨M, 0, none⟩)] w = some (.tuple #[], w1) ∧ Med w1 base M 0 B l dead armed keep L g ∧ Grew (fun k => k = M) w w1 :=
  ⟨_, mu_unlock (h.blk.cell_eq 0 rfl) (h.blk.frozen 0), (h.write 0 _ rfl).1, grew_set w 0 _ rfl⟩
theorem Med.cB (h : Med w base M s B l dead armed keep L g) : w.cell? ⟨M, 2, none⟩ = some B := h.blk.cell_eq 2 rfl
theorem Med.cD (h : Med w base M s B l dead armed keep L g) : w.cell? ⟨M, 3, none⟩ = some (.bool dead) := h.blk.cell_eq 3 rfl
theorem Med.cA (h : Med w base M s B l dead armed keep L g) : w.cell? ⟨M, 4, none⟩ = some (.int .i64 armed) := h.blk.cell_eq 4 rfl
theorem Med.cK (h : Med w base M s B l dead armed keep L g) : w.cell? ⟨M, 5, none⟩ = some (.int .i64 keep) := h.blk.cell_eq 5 rfl
theorem Med.cL (h : Med w base M s B l dead armed keep L g) : w.cell? ⟨M, 6, none⟩ = some L := h.blk.cell_eq 6 rfl

theorem dead_ok (h : Med w base M 0 B l dead armed keep L g) : ∃ w', C 18 #[.pointer (some ⟨M, 0, none⟩)] w = some (.bool dead, w') ∧ Med w' base M 0 B l dead armed keep L g ∧ Grew (fp M B L) w w' := by
  obtain ⟨w1, h1, m1, g1⟩ := h.lock
  obtain ⟨w2, h2, m2, g2⟩ := m1.unlock
  refine ⟨w2, f18.run rfl ?_, m2, g1.step g2⟩
  simp [f18, addL, h1, m1.cD, h2, Res.after]
theorem size_ok (h : Med w base M 0 B l dead armed keep L g) : ∃ w', C 10 #[.pointer (some ⟨M, 0, none⟩)] w = some (.int .i64 l.length, w') ∧ Med w' base M 0 B l dead armed keep L g ∧ Grew (fp M B L) w w' := by
  obtain ⟨w1, h1, m1, g1⟩ := h.lock
  obtain ⟨w2, h2, m2, g2⟩ := m1.unlock
  obtain ⟨A, c, rfl, _⟩ := own_form h.row
  refine ⟨w2, f10.run rfl ?_, m2, g1.step g2⟩
  simp [f10, addL, h1, m1.cB, h2, Res.after]

theorem bool_not (b : Bool) : prun Tryd.prog (Op.unary .not (.bool b)) = some (.bool !b) := id (by kernel_rfl)
theorem build71 : prun Tryd.prog (Instr.build 71 #[]) = some (.agg #[.int .i32 0, .int .u32 0, .slice none 0 0, .bool false, .int .i64 0, .int .i64 0, .slice none 0 0]) := id (by kernel_rfl)
theorem build105 (a b : Int) : prun Tryd.prog (Instr.build 105 #[(0, .int .i64 a), (1, .int .i64 b)]) = some (.agg #[.int .i64 a, .int .i64 b]) := id (by kernel_rfl)
theorem bs69_1 (a b : Int) (w : World) : erun Tryd.prog (Instr.buildSlice 69 1 #[(0, .agg #[.int .i64 a, .int .i64 b])]) w = some (.slice (some ⟨w.heap.size, 0, none⟩) 1 1, w.alloc (.cells #[.int .i64 a, .int .i64 b] 105)) := id (by kernel_rfl)
theorem min3 (a b : Int) : prun Tryd.prog (Builtin.min_ #[3, 3] 3 #[.int .i64 a, .int .i64 b]) = some (.int .i64 (if b < a then b else a)) := id (by kernel_rfl)
theorem sc_length (g : List (Int × Int)) : (sc g).length = g.length * 2 := by induction g with
  | nil => rfl
  | cons p r ih => simp [sc] at ih ⊢; omega
theorem sc_append (g g' : List (Int × Int)) : sc (g ++ g') = sc g ++ sc g' := by simp [sc]
theorem sc_one (g : List (Int × Int)) : ∀ u ∈ sc g, u.oneCell' = true := by
  intro u hu
  simp [sc] at hu
  obtain ⟨a, b, _, h | h⟩ := hu <;> (subst h; rfl)

/-- a new one -/
theorem new_ok (w : World) {base : Nat} (hb : base ≤ w.heap.size) : ∃ w', C 9 #[] w = some (.pointer (some ⟨w.heap.size, 0, none⟩), w') ∧ Med w' base w.heap.size 0 (.slice none 0 0) [] false 0 0 (.slice none 0 0) [] ∧ w.grownBy w' none := by
  refine ⟨w.alloc (.cells #[.int .i32 0, .int .u32 0, .slice none 0 0, .bool false, .int .i64 0, .int .i64 0, .slice none 0 0] 71), f9.run rfl ?_, ⟨Blk.new w 71 [.int .i32 0, .int .u32 0, .slice none 0 0, .bool false, .int .i64 0, .int .i64 0, .slice none 0 0], hb, World.ownsRow_nil _ _ _ _, World.ownsRow_nil _ _ _ _⟩, World.grownBy_alloc w _ none⟩
  simp [f9, build71, box_any, Value.cells]

/-- what came out: n elements, in memory that is new (since w0), or none -/
structure Out (w0 w : World) (v : Value) (n : Nat) (xs : List Value) : Prop where
  out : ∃ A c, v = .slice A n c ∧ n ≤ c ∧ Rd w A xs ∧ (A = none → c = 0) ∧ (∀ a, A = some a → w0.heap.size ≤ a.block)
theorem Out.grew {w0 w w' : World} {v : Value} {n : Nat} {xs : List Value} (h : Out w0 w v n xs) {S : Nat → Prop} (hg : Grew S w w') (hs : ∀ k, v.ownBlock = some k → w0.heap.size ≤ k → ¬ S k) : Out w0 w' v n xs := by
  obtain ⟨A, c, rfl, h2, h3, h4, h5⟩ := h.out
  exact ⟨A, c, rfl, h2, h3.grew hg fun a ha => hs _ (by subst ha; rfl) (h5 a ha), h4, h5⟩

/-- bytes, again -/
theorem clone_ok {w : World} {A : Option Addr} {n c : Nat} {l : List UInt8} (hl : l.length = n) (hr : Rd w A (bv l)) (hnil : A = none → c = 0) (hn : n ≤ 140737488355328) :
    ∃ v w', C 55 #[.slice A n c] w = some (v, w') ∧ w'.ownsRow w.heap.size 5 1 v n (bv l) ∧ w.grownBy w' none := by
  cases A with
  | none =>
    have hl0 : l = [] := by
      have h : bv l = [] := hr
      cases l with
      | nil => rfl
      | cons x r => simp [bv] at h
    subst hl0
    simp at hl
    subst hl
    obtain rfl := hnil rfl
    exact ⟨.slice none 0 0, w, f55.run rfl (by simp [f55]), World.ownsRow_nil _ _ _ _, grown_refl _ _⟩
  | some a =>
    have hown := World.ownsRow_made (e := 5) (size := 1) w #[] 0 (Nat.le_refl _) (by simp [maxLen]) (by simp)
    have hg := World.grownBy_alloc w (.cells #[] 5) none
    obtain ⟨v', w', h1, h2, h3⟩ := ap44 (ty := 44) hown (A := some a) (m := n) (c := c) (news := bv l) (by simp [hl]) (hr.grown hg) hnil (bv_one l) (by simp [maxLen]; omega) (by omega) (by simp)
    refine ⟨v', w', f55.run rfl ?_, by simpa using h2, grown_trans hg h3 (fun k hk => by simp [Value.ownBlock] at hk; omega)⟩
    simp [f55, h1]
theorem clip_ok (A : Option Addr) (n c : Nat) (hc : n ≤ c) (w : World) : C 54 #[.slice A n c] w = some (.slice A n n, w) := by
  have hsl := sl44 A n c none (some (.int .i64 n)) (some (.int .i64 n)) 0 n n (by
    have := bounds_himax (P := Tryd.prog) n c .i64 .i64 n n (by omega) (by omega) (by omega)
    rw [this]; rfl)
  refine f54.run rfl ?_
  simp [f54, hsl]
theorem lies_ok (a n size : Int) (h0 : 0 ≤ size) (h1 : size ≤ 9223372036854775807) (w : World) : C 53 #[.int .i64 a, .int .i64 n, .int .i64 size] w = some (.bool (decide (0 ≤ a ∧ 0 ≤ n ∧ a ≤ size ∧ n ≤ size - a)), w) := by
  refine f53.run rfl ?_
  by_cases c1 : 0 ≤ a
  · by_cases c2 : 0 ≤ n
    · by_cases c3 : a ≤ size
      · have e : IntKind.i64.wrap (size - a) = size - a := wrap_i64 (by omega) (by omega)
        by_cases c4 : n ≤ size - a
        · simp [f53, c1, c2, c3, c4, e]
        · simp [f53, c1, c2, c3, c4, e]
      · simp [f53, c1, c2, c3]
    · simp [f53, c1, c2]
  · simp [f53, c1]
end
section
variable {w : World} {base M : Nat} {B : Value} {l : List UInt8} {dead : Bool} {armed keep : Int} {L : Value} {g : List (Int × Int)}
end

section
variable {w : World} {base M : Nat} {B : Value} {l : List UInt8} {dead : Bool} {armed keep : Int} {L : Value} {g : List (Int × Int)}
theorem append_dead (h : Med w base M 0 B l true armed keep L g) (b : Value) : ∃ w', C 15 #[.pointer (some ⟨M, 0, none⟩), b] w = some (.tuple #[.int .i64 0, .int .i64 152], w') ∧ Med w' base M 0 B l true armed keep L g ∧ Grew (fp M B L) w w' := by
  obtain ⟨w1, h1, m1, g1⟩ := h.lock
  obtain ⟨w4, h4, m4, g4⟩ := m1.unlock
  refine ⟨w4, f15.run rfl ?_, m4, g1.step g4⟩
  simp [f15, addL, h1, m1.cD, h4, Res.after, Res.done, outcome]
theorem fp_step {w1 : World} {B B' L : Value} {M : Nat} (hg : Grew (fp M B L) w w1) (hk : ∀ k, B'.ownBlock = some k → B.ownBlock = some k ∨ w1.heap.size ≤ k) : ∀ k, fp M B' L k → fp M B L k ∨ w.heap.size ≤ k := by
  rintro k (h | h | h)
  · exact .inl (.inl h)
  · rcases hk k h with h | h
    · exact .inl (.inr (.inl h))
    · exact .inr (Nat.le_trans hg.size h)
  · exact .inl (.inr (.inr h))
/-- more bytes, put behind those that there are -/
theorem Med.more (h : Med w base M 1 B l dead armed keep L g) {A : Option Addr} {n c : Nat} {x : List UInt8} (hx : x.length = n) (hr : Rd w A (bv x)) (hnil : A = none → c = 0) (hn : l.length + n ≤ 268435456) (hb : base ≤ w.heap.size) :
    ∃ B' w1 w2, erun Tryd.prog (Builtin.append_ #[44, 44] 44 #[B, .slice A n c]) w = some (B', w1) ∧ erun Tryd.prog (Instr.storeAt 44 (.pointer (some ⟨M, 2, none⟩)) B') w1 = some ((), w2) ∧
      w1.cell? ⟨M, 2, none⟩ = some B ∧ Med w2 base M 1 B' (l ++ x) dead armed keep L g ∧ Grew (fp M B L) w w2 ∧ (∀ k, B'.ownBlock = some k → B.ownBlock = some k ∨ w.heap.size ≤ k) := by
  obtain ⟨B', w1, h1, o1, g1, k1⟩ := e_append2 (P := Tryd.prog) (ty := 44) Tryd.underlying44 inf5 zero5 size5 bytes5 rfl (by decide) h.row (A := A) (m := n) (c := c) (news := bv x) (by simp [hx]) hr hnil (bv_one x) (by simp [maxLen]; omega) (by omega) hb
  have b1 := h.blk.grown g1 h.neB
  have l1 := h.log.kept g1 (by
    cases hL : L.ownBlock with
    | none => exact .inl rfl
    | some k => exact .inr fun e => h.neBL e.symm hL)
  rw [← bv_append] at o1
  have o1' : w1.ownsRow base 5 1 B' (l ++ x).length (bv (l ++ x)) := by rw [List.length_append, hx]; exact o1
  have s1 : erun Tryd.prog (Instr.storeAt 44 (.pointer (some ⟨M, 2, none⟩)) B') w1 = some ((), w1.setCell ⟨M, 2, none⟩ B') := by
    obtain ⟨A2, c2, rfl, _⟩ := own_form o1
    exact st44 rfl rfl (b1.cell_eq 2 rfl) (b1.frozen 2)
  have hM : B'.ownBlock ≠ some M := own_blk_ne o1 b1 (by decide)
  refine ⟨B', w1, _, h1, s1, b1.cell_eq 2 rfl, ⟨b1.store2 2 _ rfl, h.hM, o1'.kept (grown_set M 2 _) (.inr hM), l1.kept (grown_set M 2 _) (.inr ?_)⟩, ?_, k1⟩
  · intro e; exact h.neL e
  · exact (grew_of g1 fun k hk => .inl (.inr (.inl hk))).step (grew_set _ 2 _ (.inl rfl))
theorem append_ok (h : Med w base M 0 B l false armed keep L g) {A : Option Addr} {n c : Nat} {x : List UInt8} (hx : x.length = n) (hr : ∀ w', Grew (fp M B L) w w' → Rd w' A (bv x)) (hnil : A = none → c = 0) (hn : l.length + n ≤ 268435456) (ha : armed ≠ 1) (ha0 : 0 ≤ armed) (haN : armed ≤ 9223372036854775807) (hb : base ≤ w.heap.size) :
    ∃ B' w', C 15 #[.pointer (some ⟨M, 0, none⟩), .slice A n c] w = some (.tuple #[.int .i64 l.length, .int .i64 0], w') ∧ Med w' base M 0 B' (l ++ x) false (if armed = 0 then 0 else armed - 1) keep L g ∧ Grew (fp M B L) w w' ∧ (∀ k, fp M B' L k → fp M B L k ∨ w.heap.size ≤ k) := by
  obtain ⟨w1, h1, m1, g1⟩ := h.lock
  obtain ⟨A2, c2, rfl, hc⟩ := own_form h.row
  have e1 : IntKind.i64.wrap (268435456 - (l.length : Int)) = 268435456 - l.length := wrap_i64 (by omega) (by omega)
  by_cases hz : armed = 0
  · subst hz
    obtain ⟨B', w2, w3, h2, h3, c3, m3, g3, k3⟩ := m1.more hx (hr _ g1) hnil hn (Nat.le_trans hb g1.size)
    obtain ⟨w4, h4, m4, g4⟩ := m3.unlock
    have hk := fp_step g1 k3
    refine ⟨B', w4, f15.run rfl ?_, m4, (g1.step g3).trans g4 hk, hk⟩
    simp (disch := omega) [f15, addL, h1, m1.cD, m1.cB, m1.cA, e1, lt_f, h2, h3, h4, Res.after, Res.done, outcome]
  · have e2 : IntKind.i64.wrap (armed - 1) = armed - 1 := wrap_i64 (by omega) (by omega)
    have s1 := st3 (v := .int .i64 (armed - 1)) rfl rfl m1.cA (m1.blk.frozen 4)
    obtain ⟨m2, g2⟩ := m1.write 4 (.int .i64 (armed - 1)) rfl
    obtain ⟨B', w2, w3, h2, h3, c3, m3, g3, k3⟩ := m2.more hx (hr _ (g1.step g2)) hnil hn (Nat.le_trans hb (g1.step g2).size)
    obtain ⟨w4, h4, m4, g4⟩ := m3.unlock
    have hk := fp_step (g1.step g2) k3
    refine ⟨B', w4, f15.run rfl ?_, by simpa [hz] using m4, ((g1.step g2).step g3).trans g4 hk, hk⟩
    simp (disch := omega) [f15, addL, h1, m1.cD, m1.cB, m1.cA, e1, ha, lt_f, lt_t, e2, s1, m2.cB, h2, h3, h4, Res.after, Res.done, outcome]
theorem append_dies (h : Med w base M 0 B l false 1 keep L g) {A : Option Addr} {n c : Nat} {x : List UInt8} (hx : x.length = n) (hc : n ≤ c) (hr : ∀ w', Grew (fp M B L) w w' → Rd w' A (bv x)) (hnil : A = none → c = 0) (hn : l.length + n ≤ 268435456) (hk0 : 0 ≤ keep) (hb : base ≤ w.heap.size) :
    ∃ B' w', C 15 #[.pointer (some ⟨M, 0, none⟩), .slice A n c] w = some (.tuple #[.int .i64 0, .int .i64 152], w') ∧ Med w' base M 0 B' (l ++ x.take keep.toNat) true 0 keep L g ∧ Grew (fp M B L) w w' ∧ (∀ k, fp M B' L k → fp M B L k ∨ w.heap.size ≤ k) := by
  obtain ⟨w1, h1, m1, g1⟩ := h.lock
  obtain ⟨A2, c2, rfl, hc2⟩ := own_form h.row
  have e1 : IntKind.i64.wrap (268435456 - (l.length : Int)) = 268435456 - l.length := wrap_i64 (by omega) (by omega)
  obtain ⟨q, hq⟩ : ∃ q : Nat, q = min keep.toNat n := ⟨_, rfl⟩
  have mn : (if (n : Int) < keep then (n : Int) else keep) = q := by split <;> omega
  have m3' := min3 keep n
  rw [mn] at m3'
  have hsl := sl44 A n c none (some (.int .i64 q)) none 0 q c (by
    have := bounds_hi (P := Tryd.prog) n c .i64 q (by omega) (by omega)
    rw [this]; rfl)
  have hx' : x.take q = x.take keep.toNat := by
    rw [hq, ← hx]
    by_cases hle : keep.toNat ≤ x.length
    · rw [Nat.min_eq_left hle]
    · rw [Nat.min_eq_right (by omega), List.take_length, List.take_of_length_le (by omega)]
  have m1' : Med w1.drew base M 1 (.slice A2 l.length c2) l false 1 keep L g := ⟨m1.blk, m1.hM, m1.row, m1.log⟩
  obtain ⟨B', w2, w3, h2, h3, c3, m3, g3, k3⟩ := m1'.more (x := x.take q) (n := q) (c := c) (A := A) (by rw [List.length_take]; omega) (by rw [bv_take]; exact ((hr _ (g1.step (Grew.drew _ _))).take q)) hnil (by omega) (Nat.le_trans hb g1.size)
  have g1' : Grew (fp M (.slice A2 l.length c2) L) w w1.drew := g1.step (Grew.drew _ _)
  have s4 := st4 (v := .bool true) rfl rfl m3.cD (m3.blk.frozen 3)
  obtain ⟨m4, g4⟩ := m3.write 3 (.bool true) rfl
  have s5 := st3 (v := .int .i64 0) rfl rfl m4.cA (m4.blk.frozen 4)
  obtain ⟨m5, g5⟩ := m4.write 4 (.int .i64 0) rfl
  obtain ⟨w6, h6, m6, g6⟩ := m5.unlock
  have hk := fp_step g1' k3
  refine ⟨B', w6, f15.run rfl ?_, by rw [← hx']; exact m6, (((g1'.step g3).trans g4 hk).trans g5 hk).trans g6 hk, hk⟩
  simp (disch := omega) [f15, addL, h1, m1.cD, m1.cB, m1.cA, m1.cK, e1, lt_f, m3', hsl, h2, h3, s4, s5, h6, Res.after, Res.done, outcome, chkThen]

theorem read_out (h : Med w base M 0 B l false armed keep L g) (i k : Int) (hik : ¬ (0 ≤ i ∧ 0 ≤ k ∧ i ≤ l.length ∧ k ≤ l.length - i)) (hl : l.length ≤ 268435456) :
    ∃ w', C 32 #[.pointer (some ⟨M, 0, none⟩), .int .i64 i, .int .i64 k] w = some (.tuple #[.slice none 0 0, .int .i64 151], w') ∧ Med w' base M 0 B l false armed keep L g ∧ Grew (fp M B L) w w' := by
  obtain ⟨w1, h1, m1, g1⟩ := h.lock
  obtain ⟨A, c, rfl, hc, hcm⟩ := own_form h.row
  have hli := lies_ok i k l.length (by omega) (by omega) w1
  rw [decide_eq_false hik] at hli
  have h2 : C 40 #[.pointer (some ⟨M, 0, none⟩), .int .i64 i, .int .i64 k] w1 = some (.tuple #[.slice none 0 0, .int .i64 151], w1) := by
    refine f40.run rfl ?_
    simp [f40, addL, m1.cD, m1.cB, hli, bool_not]
  obtain ⟨w3, h3, m3, g3⟩ := m1.unlock
  refine ⟨w3, f32.run rfl ?_, m3, g1.step g3⟩
  simp [f32, addL, h1, h2, h3, Res.after, Res.done, outcome]
theorem read_dead (h : Med w base M 0 B l true armed keep L g) (i k : Int) :
    ∃ w', C 32 #[.pointer (some ⟨M, 0, none⟩), .int .i64 i, .int .i64 k] w = some (.tuple #[.slice none 0 0, .int .i64 152], w') ∧ Med w' base M 0 B l true armed keep L g ∧ Grew (fp M B L) w w' := by
  obtain ⟨w1, h1, m1, g1⟩ := h.lock
  have h2 : C 40 #[.pointer (some ⟨M, 0, none⟩), .int .i64 i, .int .i64 k] w1 = some (.tuple #[.slice none 0 0, .int .i64 152], w1) := by
    refine f40.run rfl ?_
    simp [f40, addL, m1.cD]
  obtain ⟨w3, h3, m3, g3⟩ := m1.unlock
  refine ⟨w3, f32.run rfl ?_, m3, g1.step g3⟩
  simp [f32, addL, h1, h2, h3, Res.after, Res.done, outcome]
end
section
variable {w : World} {base M P : Nat} {B : Value} {l : List UInt8} {dead : Bool} {armed keep : Int} {L : Value} {g : List (Int × Int)} {i k : Nat}
end

section
variable {w W : World} {M : Nat} {s : Int} {B : Value} {l : List UInt8} {dead : Bool} {armed keep : Int} {L : Value} {g : List (Int × Int)}
theorem grown_fp {w' : World} (G : W.grownBy w none) (h : Med w W.heap.size M s B l dead armed keep L g) (hg : Grew (fp M B L) w w') : W.grownBy w' none :=
  ((grew_new (S := fun _ => False) G).trans hg fun k hk => .inr (h.fpge k hk).1).toNew fun _ h => h.elim
theorem Rd.fp {A : Option Addr} {cs : List Value} (hr : Rd W A cs) (G : W.grownBy w none) (h : Med w W.heap.size M s B l dead armed keep L g) : ∀ w', Grew (fp M B L) w w' → Rd w' A cs := fun w' hg => hr.grown (grown_fp G h hg)
end
end Go.Sh.YtodkllcibbidoaaDoor

namespace Go.Sh.YtodkllcibbidoaaDoor
open Go Go.Proofs Go.RowKit
set_option linter.unusedVariables false
set_option linter.unusedSimpArgs false
set_option maxRecDepth 100000
/-- a list that came out: it shows all of a row in new memory, or a part of its room -/
structure Cl (w0 w : World) (e sz : Nat) (v : Value) (n : Nat) (xs : List Value) : Prop where
  out : ∃ A c, v = .slice A n n ∧ n ≤ c ∧ w.ownsRow w0.heap.size e sz (.slice A n c) n xs
theorem clip_block (A : Option Addr) (n c c' : Nat) : (Value.slice A n c).ownBlock = (Value.slice A n c').ownBlock := by cases A <;> rfl
theorem Cl.grew {w0 w w' : World} {e sz : Nat} {v : Value} {n : Nat} {xs : List Value} {S : Nat → Prop} (h : Cl w0 w e sz v n xs) (hg : Grew S w w') (hs : ∀ k, v.ownBlock = some k → w0.heap.size ≤ k → k < w.heap.size → ¬ S k) : Cl w0 w' e sz v n xs := by
  obtain ⟨A, c, rfl, hc, o⟩ := h.out
  exact ⟨A, c, rfl, hc, own_grew o hg fun k hk => hs k ((clip_block A n n c).trans hk) (o.lt k hk).1 (o.lt k hk).2⟩
theorem Cl.ge {w0 w : World} {e sz : Nat} {v : Value} {n : Nat} {xs : List Value} (h : Cl w0 w e sz v n xs) {k : Nat} (hk : v.ownBlock = some k) : w0.heap.size ≤ k ∧ k < w.heap.size := by
  obtain ⟨A, c, rfl, hc, o⟩ := h.out
  exact o.lt k ((clip_block A n c n).trans hk)
theorem cl_of {w0 w w' : World} {e sz n : Nat} {v : Value} {xs : List Value} (h : w'.ownsRow w.heap.size e sz v n xs) (hw : w0.heap.size ≤ w.heap.size) : ∃ A c, v = .slice A n c ∧ n ≤ c ∧ Cl w0 w' e sz (.slice A n n) n xs := by
  obtain ⟨A, c, rfl, hc, _⟩ := own_form h
  exact ⟨A, c, rfl, hc, ⟨A, c, rfl, hc, own_rebase h fun k hk => Nat.le_trans hw (h.lt k hk).1⟩⟩
theorem cl_nil (w0 w : World) (e sz : Nat) : Cl w0 w e sz (.slice none 0 0) 0 [] := ⟨none, 0, rfl, Nat.le_refl _, World.ownsRow_nil w w0.heap.size e sz⟩
theorem Cl.rd {w0 w : World} {e sz : Nat} {v : Value} {n : Nat} {xs : List Value} (h : Cl w0 w e sz v n xs) : ∃ A, v = .slice A n n ∧ Rd w A xs := by
  obtain ⟨A, c, rfl, hc, o⟩ := h.out
  exact ⟨A, rfl, Rd.owned o⟩
section
variable {w : World} {base M : Nat} {B L : Value} {l : List UInt8} {dead : Bool} {armed keep : Int} {g : List (Int × Int)}
theorem read_cl1 (h : Med w base M 1 B l false armed keep L g) (i k : Nat) (hik : i + k ≤ l.length) (hl : l.length ≤ 268435456) (hg : g.length ≤ 8000000000000) (hb : base ≤ w.heap.size) :
    ∃ v L' w', C 40 #[.pointer (some ⟨M, 0, none⟩), .int .i64 i, .int .i64 k] w = some (.tuple #[v, .int .i64 0], w') ∧ Med w' base M 1 B l false armed keep L' (g ++ [((i : Int), (k : Int))]) ∧ Grew (fp M B L) w w' ∧
      (∀ j, L'.ownBlock = some j → L.ownBlock = some j ∨ w.heap.size ≤ j) ∧ Cl w w' 5 1 v k (bv ((l.drop i).take k)) ∧ (∀ j, fp M B L' j → v.ownBlock ≠ some j) := by
  obtain ⟨A, c, rfl, hc, hcm⟩ := own_form h.row
  have hli := lies_ok i k l.length (by omega) (by omega) w
  have hd : decide ((0 : Int) ≤ i ∧ (0 : Int) ≤ k ∧ (i : Int) ≤ l.length ∧ (k : Int) ≤ l.length - i) = true := by simp; omega
  rw [hd] at hli
  obtain ⟨W1, hW1⟩ : ∃ W1, W1 = w.alloc (.cells #[.int .i64 i, .int .i64 k] 105) := ⟨_, rfl⟩
  have ga : w.grownBy W1 none := hW1 ▸ World.grownBy_alloc w _ none
  have hsz : W1.heap.size = w.heap.size + 1 := by rw [hW1]; simp
  have r1 : Rd W1 (some ⟨w.heap.size, 0, none⟩) (sc [((i : Int), (k : Int))]) := by
    rw [hW1]
    intro j v hj
    rw [addL, Nat.zero_add, World.cell?_alloc_new]
    simpa [sc] using hj
  obtain ⟨L', W2, h2, o2, g2, k2⟩ := e_append2 (P := Tryd.prog) (ty := 69) Tryd.underlying69 inf105 zero105 size105 bytes105 rfl (by decide) (own_new h.log ga) (A := some ⟨w.heap.size, 0, none⟩) (m := 1) (c := 1) (news := sc [((i : Int), (k : Int))]) (by simp [sc_length]) r1 (fun h => by cases h) (sc_one _) (by simp [maxLen]; omega) (by omega) (by omega)
  rw [← sc_append] at o2
  have g2' : Grew (fp M (.slice A l.length c) L) w W2 := (grew_new ga).trans (grew_of (S := fp M (.slice A l.length c) L) g2 fun k hk => .inl (.inr (.inr hk))) fun _ hk => .inl hk
  have bM := (h.blk.grown ga (by simp)).grown g2 h.neL
  have rB := own_beside (own_new h.row ga) g2 fun k h1 h2 => h.neBL h1 h2
  have hM : L'.ownBlock ≠ some M := own_blk_ne o2 bM (by decide)
  have s1 : erun Tryd.prog (Instr.storeAt 69 (.pointer (some ⟨M, 6, none⟩)) L') W2 = some ((), W2.setCell ⟨M, 6, none⟩ L') := by
    obtain ⟨A2, c2, rfl, _⟩ := own_form o2
    exact st69 rfl rfl (bM.cell_eq 6 rfl) (bM.frozen 6)
  have m3 : Med (W2.setCell ⟨M, 6, none⟩ L') base M 1 (.slice A l.length c) l false armed keep L' (g ++ [((i : Int), (k : Int))]) :=
    ⟨bM.store2 6 _ rfl, h.hM, rB.kept (grown_set M 6 _) (.inr h.neB), by
      have := o2.kept (grown_set M 6 L') (.inr hM)
      simpa using this⟩
  have g3 : Grew (fp M (.slice A l.length c) L) w (W2.setCell ⟨M, 6, none⟩ L') := g2'.step (grew_set _ 6 _ (.inl rfl))
  obtain ⟨W3, hW3⟩ : ∃ W3, W3 = W2.setCell ⟨M, 6, none⟩ L' := ⟨_, rfl⟩
  rw [← hW3] at s1 m3 g3
  have rr := (Rd.owned m3.row).sliced i (i + k) c 1 (by omega) (by omega)
  have hsl := sl44 A l.length c (some (.int .i64 i)) (some (.int .i64 ((i : Int) + k))) none i (i + k) c (by
    have := bounds_lohi (P := Tryd.prog) l.length c .i64 .i64 i ((i : Int) + k) (by omega) (by omega) (by omega)
    rw [this]; congr 2)
  have e1 : ((bv l).drop (i * 1)).take ((i + k - i) * 1) = bv ((l.drop i).take k) := by simp [bv_take, bv_drop]
  rw [e1] at rr
  have e2 : IntKind.i64.wrap ((i : Int) + k) = i + k := wrap_i64 (by omega) (by omega)
  have e3 : i + k - i = k := by omega
  rw [e3] at hsl
  obtain ⟨v4, W4, h4, o4, g4⟩ := clone_ok (w := W3) (n := k) (c := c - i) (by simp; omega) rr (sliced_nil (own_nil h.row) (Nat.le_refl _)) (by omega)
  obtain ⟨A5, c5, rfl, hc5, O5⟩ := cl_of (w0 := w) o4 g3.size
  simp only [Nat.mul_one] at h4 hsl
  refine ⟨_, L', W4, f40.run rfl ?_, m3.grew (grew_new (S := fun _ => False) g4) (fun _ _ h => h), g3.step (grew_new g4), fun j hj => ?_, O5, fun j hj hv => by
    have h1 := (m3.fpge j hj).2
    have h2 := (o4.lt j (by cases A5 <;> exact hv)).1
    omega⟩
  · have h2' := h2
    rw [hW1] at h2'
    simp [f40, addL, h.cD, h.cB, hli, bool_not, h.cL, build105, bs69_1, h2', s1, m3.cB, e2, hsl, h4, clip_ok A5 _ c5 hc5]
  · rcases k2 j hj with h | h
    · exact .inl h
    · exact .inr (by omega)
theorem read_cl (h : Med w base M 0 B l false armed keep L g) (i k : Nat) (hik : i + k ≤ l.length) (hl : l.length ≤ 268435456) (hg : g.length ≤ 8000000000000) (hb : base ≤ w.heap.size) :
    ∃ v L' w', C 32 #[.pointer (some ⟨M, 0, none⟩), .int .i64 i, .int .i64 k] w = some (.tuple #[v, .int .i64 0], w') ∧ Med w' base M 0 B l false armed keep L' (g ++ [((i : Int), (k : Int))]) ∧ Grew (fp M B L) w w' ∧
      (∀ j, fp M B L' j → fp M B L j ∨ w.heap.size ≤ j) ∧ Cl w w' 5 1 v k (bv ((l.drop i).take k)) ∧ (∀ j, fp M B L' j → v.ownBlock ≠ some j) := by
  obtain ⟨w1, h1, m1, g1⟩ := h.lock
  obtain ⟨v, L', w2, h2, m2, g2, k2, O2, d2⟩ := read_cl1 m1 i k hik hl hg (Nat.le_trans hb g1.size)
  obtain ⟨w3, h3, m3, g3'⟩ := m2.unlock2
  have g3 : Grew (fp M B L') w2 w3 := g3'.weak fun k hk => .inl (.inl hk)
  have hk : ∀ j, fp M B L' j → fp M B L j ∨ w.heap.size ≤ j := by
    rintro j (h | h | h)
    · exact .inl (.inl h)
    · exact .inl (.inr (.inl h))
    · rcases k2 j h with h | h
      · exact .inl (.inr (.inr h))
      · exact .inr (Nat.le_trans g1.size h)
  have O2' : Cl w w3 5 1 v k (bv ((l.drop i).take k)) := by
    have Om : Cl w w2 5 1 v k (bv ((l.drop i).take k)) := by
      obtain ⟨A, c, a1, a2, a3⟩ := O2.out
      exact ⟨A, c, a1, a2, own_rebase a3 fun k hk => Nat.le_trans g1.size (a3.lt k hk).1⟩
    refine Om.grew g3' fun a ha _ _ hf => ?_
    have hf' : a = M := hf
    have := (O2.ge ha).1
    have e3 : w1.drew.heap.size = w1.heap.size := rfl
    have := m1.blk.lt
    omega
  refine ⟨v, L', w3, f32.run rfl ?_, m3, (g1.step g2).trans g3 hk, hk, O2', d2⟩
  simp [f32, addL, h1, h2, h3, Res.after, Res.done, outcome]
variable {P : Nat} {i k : Nat}
end
end Go.Sh.YtodkllcibbidoaaDoor

namespace Go.Sh.YtodkllcibbidoaaDoor
open Go Go.Proofs Go.RowKit
set_option linter.unusedVariables false
set_option linter.unusedSimpArgs false
set_option maxRecDepth 100000
/-- a medium, as the document speaks of it -/
structure Pm where
  l : List UInt8
  dead : Bool
  armed : Int
  keep : Int
  g : List (Int × Int)
structure Pm.fit (s : Pm) : Prop where
  l : s.l.length ≤ 268435456
  g : s.g.length ≤ 4000000000
  a0 : 0 ≤ s.armed
  a1 : s.armed ≤ 9223372036854775807
  k0 : 0 ≤ s.keep
  k1 : s.keep ≤ 9223372036854775807
def inr (i k n : Int) : Prop := 0 ≤ i ∧ 0 ≤ k ∧ i ≤ n ∧ k ≤ n - i
instance (i k n : Int) : Decidable (inr i k n) := by unfold inr; infer_instance
def Pm.append (s : Pm) (x : List UInt8) : Int × Int × Pm :=
  if s.dead then (0, 152, s)
  else if s.armed = 1 then (0, 152, { s with l := s.l ++ x.take s.keep.toNat, dead := true, armed := 0 })
  else (s.l.length, 0, { s with l := s.l ++ x, armed := if s.armed = 0 then 0 else s.armed - 1 })
def Pm.over (s : Pm) (i : Int) (x : List UInt8) : Int × Pm := if inr i x.length s.l.length then (0, { s with l := s.l.take i.toNat ++ x ++ s.l.drop (i.toNat + x.length) }) else (151, s)
def Pm.read (s : Pm) (i k : Int) : List UInt8 × Int × Pm :=
  if s.dead then ([], 152, s) else if inr i k s.l.length then ((s.l.drop i.toNat).take k.toNat, 0, { s with g := s.g ++ [(i, k)] }) else ([], 151, s)
/-- the program's medium -/
def PMd (w : World) (base M : Nat) (B L : Value) (s : Pm) : Prop := Med w base M 0 B s.l s.dead s.armed s.keep L s.g
/-- what a call does to a medium whose lists lie in a footprint -/
def Does (St : World → Value → Value → Pm → Prop) (FP : Value → Value → Nat → Prop) (w : World) (B L : Value) (r : Option (Value × World)) (val : Value) (s' : Pm) : Prop :=
  ∃ B' L' w', r = some (val, w') ∧ St w' B' L' s' ∧ Grew (FP B L) w w' ∧ ∀ k, FP B' L' k → FP B L k ∨ w.heap.size ≤ k
/-- .. that tells bytes -/
def Tells (St : World → Value → Value → Pm → Prop) (FP : Value → Value → Nat → Prop) (w : World) (B L : Value) (r : Option (Value × World)) (out : List UInt8) (e : Int) (s' : Pm) : Prop :=
  ∃ v B' L' w', r = some (.tuple #[v, .int .i64 e], w') ∧ St w' B' L' s' ∧ Grew (FP B L) w w' ∧ (∀ k, FP B' L' k → FP B L k ∨ w.heap.size ≤ k) ∧ Cl w w' 5 1 v out.length (bv out) ∧ ∀ k, FP B' L' k → v.ownBlock ≠ some k
section
variable {w : World} {base M : Nat} {B L : Value} {s : Pm}
theorem does_append (h : PMd w base M B L s) (hf : s.fit) {A : Option Addr} {n c : Nat} {x : List UInt8} (hx : x.length = n) (hc : n ≤ c) (hr : ∀ w', Grew (fp M B L) w w' → Rd w' A (bv x)) (hnil : A = none → c = 0) (hn : s.l.length + n ≤ 268435456) (hb : base ≤ w.heap.size) :
    Does (fun w B L s => PMd w base M B L s) (fp M) w B L (C 15 #[.pointer (some ⟨M, 0, none⟩), .slice A n c] w) (.tuple #[.int .i64 (s.append x).1, .int .i64 (s.append x).2.1]) (s.append x).2.2 := by
  obtain ⟨l, dead, armed, keep, g⟩ := s
  unfold PMd at h
  simp only at h hn
  cases dead with
  | true =>
    obtain ⟨w', h1, h2, h3⟩ := append_dead h (.slice A n c)
    exact ⟨B, L, w', by simpa [Pm.append] using h1, by simpa [PMd, Pm.append] using h2, h3, fun k hk => .inl hk⟩
  | false =>
    by_cases ha : armed = 1
    · subst ha
      obtain ⟨B', w', h1, h2, h3, h4⟩ := append_dies h hx hc hr hnil hn hf.k0 hb
      refine ⟨B', L, w', by simpa [Pm.append] using h1, ?_, h3, h4⟩
      simpa [PMd, Pm.append] using h2
    · obtain ⟨B', w', h1, h2, h3, h4⟩ := append_ok h hx hr hnil hn ha hf.a0 hf.a1 hb
      exact ⟨B', L, w', by simpa [Pm.append, ha] using h1, by simpa [PMd, Pm.append, ha] using h2, h3, h4⟩
end
end Go.Sh.YtodkllcibbidoaaDoor

namespace Go.Sh.YtodkllcibbidoaaDoor
open Go Go.Proofs Go.RowKit
set_option linter.unusedVariables false
set_option linter.unusedSimpArgs false
set_option maxRecDepth 100000
/-- a medium of the program -/
def medA {base : Nat} (M : Nat) (s : Pm) : Asn base := ⟨fun S w => ∃ B L, PMd w base M B L s ∧ S = fp M B L,
  fun ⟨B, L, h, e⟩ hg hs => ⟨B, L, Med.grew h hg fun k hk => hs k (by rw [e]; exact hk), e⟩, fun ⟨B, L, h, e⟩ k hk => by rw [e] at hk; exact Med.fpge h k hk⟩
section
variable {W w : World} {X : Asn W.heap.size} {M P : Nat} {s s' : Pm}
/-- a call that does something to a medium, and to nothing else -/
theorem _root_.Go.Sh.Sat.does (x : Sat W (medA M s * X) w) {r : Option (Value × World)} {val : Value} (hd : ∀ B L, PMd w W.heap.size M B L s → (∀ w', Grew (fp M B L) w w' → ∃ S, X.at_ S w') → Does (fun w B L s => PMd w W.heap.size M B L s) (fp M) w B L r val s') :
    ∃ w', r = some (val, w') ∧ Sat W (medA M s' * X) w' := by
  obtain ⟨g, S, A, T, d, e, ⟨B, L, h, rfl⟩, q⟩ := x
  obtain ⟨B', L', w', h1, h2, h3, h4⟩ := hd B L h fun w' hg => ⟨T, X.frame q hg fun k hk hf => d k hf hk⟩
  refine ⟨w', h1, g.trans h3 fun k hk => .inr (h.fpge k hk).1, fun k => fp M B' L' k ∨ T k, fp M B' L', T, fun k hf hT => ?_, rfl, ⟨B', L', h2, rfl⟩, X.frame q h3 fun k hT hf => d k hf hT⟩
  rcases h4 k hf with h5 | h5
  · exact d k h5 hT
  · have := (X.rng q k hT).2; omega
theorem _root_.Go.Sh.Sat.tells (x : Sat W (medA M s * X) w) {r : Option (Value × World)} {out : List UInt8} {e : Int} (hd : ∀ B L, PMd w W.heap.size M B L s → (∀ w', Grew (fp M B L) w w' → ∃ S, X.at_ S w') → Tells (fun w B L s => PMd w W.heap.size M B L s) (fp M) w B L r out e s') :
    ∃ v w', r = some (.tuple #[v, .int .i64 e], w') ∧ Sat W (clipA 5 1 v out.length (bv out) * (medA M s' * X)) w' := by
  obtain ⟨g, S, A, T, d, e, ⟨B, L, h, rfl⟩, q⟩ := x
  obtain ⟨v, B', L', w', h1, h2, h3, h4, h5, h6⟩ := hd B L h fun w' hg => ⟨T, X.frame q hg fun k hk hf => d k hf hk⟩
  refine ⟨v, w', h1, g.trans h3 fun k hk => .inr (h.fpge k hk).1, fun k => v.ownBlock = some k ∨ (fp M B' L' k ∨ T k), fun k => v.ownBlock = some k, fun k => fp M B' L' k ∨ T k, fun k hv hk => ?_, rfl, ?_, fp M B' L', T, fun k hf hT => ?_, rfl, ⟨B', L', h2, rfl⟩, X.frame q h3 fun k hT hf => d k hf hT⟩
  · rcases hk with hf | hT
    · exact h6 k hf hv
    · have := (X.rng q k hT).2
      have := (h5.ge hv).1
      omega
  · obtain ⟨A, c, e1, e2, o⟩ := h5.out
    exact ⟨⟨A, c, e1, e2, own_rebase o fun k hk => Nat.le_trans g.size (o.lt k hk).1⟩, rfl⟩
  · rcases h4 k hf with h7 | h7
    · exact d k h7 hT
    · have := (X.rng q k hT).2; omega
theorem _root_.Go.Sh.Sat.newMed (x : Sat W X w) {w' : World} (hg : w.grownBy w' none) {B L : Value} (h : PMd w' w.heap.size M B L s) : Sat W (medA M s * X) w' := by
  obtain ⟨g, S, q⟩ := x
  have h' : PMd w' W.heap.size M B L s := ⟨h.blk, Nat.le_trans g.size h.hM, own_rebase h.row fun k hk => Nat.le_trans g.size (h.row.lt k hk).1, own_rebase h.log fun k hk => Nat.le_trans g.size (h.log.lt k hk).1⟩
  refine ⟨g.step (grew_new hg), fun k => fp M B L k ∨ S k, fp M B L, S, fun k hf hs => ?_, rfl, ⟨B, L, h', rfl⟩, X.frame q (grew_new (S := fun _ => False) hg) fun k _ h => h⟩
  have := (X.rng q k hs).2
  have := (Med.fpge h k hf).1
  omega
/-- what came in is read as it was -/
theorem _root_.Go.Sh.Sat.rd (x : Sat W X w) {A : Option Addr} {cs : List Value} (hr : Rd W A cs) : Rd w A cs := hr.grew x.1 fun _ _ h => h
theorem own_rd {base e sz n c : Nat} {A : Option Addr} {xs : List Value} (h : w.ownsRow base e sz (.slice A n c) n xs) (m : Nat) : Rd w A (xs.take m) := (Rd.owned h).take m
theorem m_size (x : Sat W (medA M s * X) w) : ∃ w', C 10 #[.pointer (some ⟨M, 0, none⟩)] w = some (.int .i64 s.l.length, w') ∧ Sat W (medA M s * X) w' := x.does fun B L h _ => by
  obtain ⟨w', h1, h2, h3⟩ := size_ok h
  exact ⟨B, L, w', h1, h2, h3, fun k hk => .inl hk⟩
theorem m_dead (x : Sat W (medA M s * X) w) : ∃ w', C 18 #[.pointer (some ⟨M, 0, none⟩)] w = some (.bool s.dead, w') ∧ Sat W (medA M s * X) w' := x.does fun B L h _ => by
  obtain ⟨w', h1, h2, h3⟩ := dead_ok h
  exact ⟨B, L, w', h1, h2, h3, fun k hk => .inl hk⟩
theorem m_append {A : Option Addr} {N c0 : Nat} {Z : List UInt8} (x : Sat W (medA M s * (rowA 5 1 (.slice A N c0) N (bv Z) * X)) w) (hf : s.fit) (hA : A ≠ none) {n c : Nat} (hn : n ≤ Z.length) (hc : n ≤ c) (hl : s.l.length + n ≤ 268435456) :
    ∃ w', C 15 #[.pointer (some ⟨M, 0, none⟩), .slice A n c] w = some (.tuple #[.int .i64 (s.append (Z.take n)).1, .int .i64 (s.append (Z.take n)).2.1], w') ∧ Sat W (medA M (s.append (Z.take n)).2.2 * (rowA 5 1 (.slice A N c0) N (bv Z) * X)) w' := x.does fun B L h hX => by
  refine does_append h hf (by rw [List.length_take]; omega) hc (fun w' hg => ?_) (fun h => absurd h hA) hl x.size
  obtain ⟨S, P, Q, d, e, ⟨p, _⟩, q⟩ := hX w' hg
  have := own_rd p n
  rwa [← bv_take] at this
theorem m_new (x : Sat W X w) : ∃ M w', C 9 #[] w = some (.pointer (some ⟨M, 0, none⟩), w') ∧ Sat W (medA M ⟨[], false, 0, 0, []⟩ * X) w' := by
  obtain ⟨w', h1, h2, h3⟩ := new_ok w (Nat.le_refl w.heap.size)
  exact ⟨w.heap.size, w', h1, x.newMed h3 h2⟩
end
end Go.Sh.YtodkllcibbidoaaDoor

namespace Go.Sh.YtodkllcibbidoaaDoor
open Go Go.Proofs Go.RowKit
set_option linter.unusedVariables false
set_option linter.unusedSimpArgs false
set_option maxRecDepth 100000
section
variable {w : World} {base M P : Nat} {B L : Value} {l : List UInt8} {dead : Bool} {armed keep : Int} {g : List (Int × Int)}
theorem inr_nat {i k : Int} {n : Nat} (h : inr i k n) : ∃ a b : Nat, i = a ∧ k = b ∧ a + b ≤ n := by
  obtain ⟨h1, h2, h3, h4⟩ := h
  exact ⟨i.toNat, k.toNat, by omega, by omega, by omega⟩
/-- nothing told -/
theorem tells_none {s : Pm} {r : Option (Value × World)} {e : Int} {w' : World} (h1 : r = some (.tuple #[.slice none 0 0, .int .i64 e], w')) (h2 : PMd w' base M B L s) (h3 : Grew (fp M B L) w w') : Tells (fun w B L s => PMd w base M B L s) (fp M) w B L r [] e s :=
  ⟨_, B, L, w', h1, h2, h3, fun k hk => .inl hk, cl_nil w w' 5 1, fun k _ h => by cases h⟩
theorem tells_read {s : Pm} (h : PMd w base M B L s) (hf : s.fit) (i k : Int) (hb : base ≤ w.heap.size) : Tells (fun w B L s => PMd w base M B L s) (fp M) w B L (C 32 #[.pointer (some ⟨M, 0, none⟩), .int .i64 i, .int .i64 k] w) (s.read i k).1 (s.read i k).2.1 (s.read i k).2.2 := by
  obtain ⟨l, dead, armed, keep, g⟩ := s
  have hl := hf.l
  have hg := hf.g
  simp only at hl hg
  have hg' : g.length ≤ 8000000000000 := by omega
  cases dead with
  | true =>
    obtain ⟨w', h1, h2, h3⟩ := read_dead h i k
    simp only [Pm.read, if_true]
    exact tells_none h1 h2 h3
  | false =>
    by_cases hi : inr i k l.length
    · obtain ⟨a, b, rfl, rfl, hab⟩ := inr_nat hi
      obtain ⟨v, L', w', h1, h2, h3, h4, h5, h6⟩ := read_cl h a b hab hl hg' hb
      simp only [Pm.read, hi, if_true, Bool.false_eq_true, if_false, Int.toNat_natCast]
      refine ⟨v, B, L', w', h1, h2, h3, h4, ?_, h6⟩
      have e : ((l.drop a).take b).length = b := by simp; omega
      rw [e]; exact h5
    · obtain ⟨w', h1, h2, h3⟩ := read_out h i k hi hl
      simp only [Pm.read, hi, if_false, Bool.false_eq_true]
      exact tells_none h1 h2 h3
variable {i k : Nat}
end
section
variable {W w : World} {X : Asn W.heap.size} {M P : Nat} {s s' : Pm}
theorem m_read (x : Sat W (medA M s * X) w) (hf : s.fit) (i k : Int) : ∃ v w', C 32 #[.pointer (some ⟨M, 0, none⟩), .int .i64 i, .int .i64 k] w = some (.tuple #[v, .int .i64 (s.read i k).2.1], w') ∧ Sat W (clipA 5 1 v (s.read i k).1.length (bv (s.read i k).1) * (medA M (s.read i k).2.2 * X)) w' :=
  x.tells fun B L h _ => tells_read h hf i k x.size
end
end Go.Sh.YtodkllcibbidoaaDoor

namespace Go.Sh.YtodkllcibbidoaaDoor
open Go Go.Proofs Go.RowKit
set_option linter.unusedVariables false
set_option linter.unusedSimpArgs false
set_option maxRecDepth 100000
theorem wrap_u64 {x : Int} (h0 : 0 ≤ x) (h1 : x < 18446744073709551616) : IntKind.u64.wrap x = x := by
  simp [IntKind.wrap, IntKind.signed, IntKind.bits]; omega
theorem wrap_u32 {x : Int} (h0 : 0 ≤ x) (h1 : x < 4294967296) : IntKind.u32.wrap x = x := by
  simp [IntKind.wrap, IntKind.signed, IntKind.bits]; omega
theorem wrap_u8n (x : Nat) : IntKind.u8.wrap (x : Int) = ((x % 256 : Nat) : Int) := by
  simp [IntKind.wrap, IntKind.signed, IntKind.bits]
theorem and_eq (x y : Int) : bits .and .u64 x y = ((BitVec.ofInt 64 x &&& BitVec.ofInt 64 y).toNat : Int) := by
  unfold bits
  simp only []
  exact wrap_u64 (x := ((BitVec.ofInt 64 x &&& BitVec.ofInt 64 y).toNat : Int)) (by omega) (by have := (BitVec.ofInt 64 x &&& BitVec.ofInt 64 y).isLt; omega)
theorem and255 {x : Nat} (h : x < 18446744073709551616) : bits .and .u64 (x : Int) 255 = ((x % 256 : Nat) : Int) := by
  rw [and_eq]
  have e1 : BitVec.ofInt 64 (x : Int) = BitVec.ofNat 64 x := by simp
  have e2 : BitVec.ofInt 64 255 = BitVec.ofNat 64 255 := by rfl
  rw [e1, e2, BitVec.toNat_and, BitVec.toNat_ofNat, BitVec.toNat_ofNat, Nat.mod_eq_of_lt (by omega : x < 2 ^ 64)]
  have := Nat.and_two_pow_sub_one_eq_mod x 8
  exact congrArg _ this
theorem shr64 (x k : Nat) (hk : k ≤ 64) (kd : IntKind) (t : TypeId) (a b : Operand) : prun Tryd.prog (do eqGuard .shr t a b (.int .u64 (x : Int)) (.int kd (k : Int)); binOp .shr t (.int .u64 (x : Int)) (.int kd (k : Int))) = some (.int .u64 ((x / 2 ^ k : Nat) : Int)) := by
  rw [p_shr _ _ _ _ _ _ _ (by omega)]
  have e : min ((k : Nat) : Int).toNat IntKind.u64.bits = k := by
    have : IntKind.u64.bits = 64 := rfl
    omega
  rw [e, Int.fdiv_eq_ediv_of_nonneg _ (Int.le_of_lt (Int.pow_pos (by decide)))]
  congr 2
/-- a byte of a number -/
theorem piece_ok (x k : Nat) (hx : x < 18446744073709551616) (hk : k ≤ 64) (w : World) : C 52 #[.int .u64 x, .int .i64 k, .int .i64 8] w = some (.int .u8 ((x / 2 ^ k % 256 : Nat) : Int), w.drew) := by
  have s1 := fun a b => shr64 x k hk .i64 90 a b
  have s2 : ∀ a b, prun Tryd.prog (do eqGuard .shl 90 a b (.int .u64 1) (.int .i64 8); binOp .shl 90 (.int .u64 1) (.int .i64 8)) = some (.int .u64 256) := fun a b => by
    rw [p_shl _ _ _ _ _ _ _ (by omega)]
    exact congrArg (fun z => some (Value.int .u64 z)) (wrap_u64 (by decide) (by decide))
  have hlt : x / 2 ^ k < 18446744073709551616 := Nat.lt_of_le_of_lt (Nat.div_le_self _ _) hx
  have e1 : IntKind.u64.wrap 255 = 255 := wrap_u64 (by decide) (by decide)
  have a1 := and255 hlt
  have cv : ∀ z : Nat, z < 256 → prun Tryd.prog (convert 90 5 (.int .u64 (z : Int))) = some (.int .u8 (z : Int)) := fun z hz => by
    have : prun Tryd.prog (convert 90 5 (.int .u64 (z : Int))) = some (.int .u8 (IntKind.u8.wrap (z : Int))) := id (by kernel_rfl)
    rw [this, wrap_u8n, Nat.mod_eq_of_lt hz]
  have c1 := cv (x / 2 ^ k % 256) (Nat.mod_lt _ (by decide))
  obtain ⟨y, hy⟩ : ∃ y : Int, y = ((x / 2 ^ k : Nat) : Int) := ⟨_, rfl⟩
  obtain ⟨z, hz⟩ : ∃ y : Int, y = ((x / 2 ^ k % 256 : Nat) : Int) := ⟨_, rfl⟩
  have a0 : ∀ a b, prun Tryd.prog (do eqGuard .and 90 a b (.int .u64 ((x / 2 ^ k : Nat) : Int)) (.int .u64 255); binOp .and 90 (.int .u64 ((x / 2 ^ k : Nat) : Int)) (.int .u64 255)) = some (.int .u64 ((x / 2 ^ k % 256 : Nat) : Int)) := fun a b => by
    rw [p_and, a1]
  rw [← hy] at s1 a0
  rw [← hz] at a0 c1 ⊢
  refine f52.run rfl ?_
  simp [f52, s1, s2, e1, a0, c1]
/-- four bytes of a number, the highest first -/
def be4 (n : Nat) : List UInt8 := [UInt8.ofNat (n / 2 ^ 24 % 256), UInt8.ofNat (n / 2 ^ 16 % 256), UInt8.ofNat (n / 2 ^ 8 % 256), UInt8.ofNat (n % 256)]
theorem be4_len (n : Nat) : (be4 n).length = 4 := rfl
theorem u8_of {m : Nat} : ((UInt8.ofNat (m % 256)).toNat : Int) = ((m % 256 : Nat) : Int) := by
  simp [UInt8.toNat_ofNat]
theorem bv_be4 (n : Nat) : bv (be4 n) = [.int .u8 ((n / 2 ^ 24 % 256 : Nat) : Int), .int .u8 ((n / 2 ^ 16 % 256 : Nat) : Int), .int .u8 ((n / 2 ^ 8 % 256 : Nat) : Int), .int .u8 ((n % 256 : Nat) : Int)] := by
  simp only [bv, be4, List.map_cons, List.map_nil, u8_of]
section
variable {W : World} {X : Asn W.heap.size}
theorem four_ok {w : World} (x : Sat W X w) {n : Nat} (hn : n < 4294967296) : ∃ v w', C 28 #[.int .i64 n] w = some (v, w') ∧ Sat W (rowA 5 1 v 4 (bv (be4 n)) * X) w' := by
  have cv : prun Tryd.prog (convert 3 90 (.int .i64 (n : Int))) = some (.int .u64 (n : Int)) := by
    have : prun Tryd.prog (convert 3 90 (.int .i64 (n : Int))) = some (.int .u64 (IntKind.u64.wrap (n : Int))) := id (by kernel_rfl)
    rw [this, wrap_u64 (by omega) (by omega)]
  have h51 : C 51 #[.int .u64 n, .int .i64 32] w = some (.bool true, w) := f51.run rfl (by
    have e : n / 2 ^ 32 = 0 := Nat.div_eq_of_lt (by omega)
    have s : ∀ a b, prun Tryd.prog (do eqGuard .shr 90 a b (.int .u64 (n : Int)) (.int .i64 32); binOp .shr 90 (.int .u64 (n : Int)) (.int .i64 32)) = some (.int .u64 0) := fun a b => by
      have := shr64 n 32 (by omega) .i64 90 a b
      rw [e] at this
      exact this
    simp [f51, s])
  obtain ⟨w1, k1, o1, g1⟩ := mk44 (w := w) w.heap.size 4 (by omega) (by decide) (Nat.le_refl _)
  have k1 : erun Tryd.prog (Instr.makeSlice 44 (.int .i64 4) (.int .i64 4)) w = some (.slice (some ⟨w.heap.size, 0, none⟩) 4 4, w1) := k1
  obtain ⟨b, hb⟩ : ∃ b, b = w.heap.size := ⟨_, rfl⟩
  rw [← hb] at k1
  have x1 : Sat W (rowA 5 1 (.slice (some ⟨b, 0, none⟩) 4 4) 4 [.int .u8 0, .int .u8 0, .int .u8 0, .int .u8 0] * X) w1 := by
    rw [hb]
    have hm : (madeCells ((.int .u8 0) : Value).cells (4 * 1)).toList = [.int .u8 0, .int .u8 0, .int .u8 0, .int .u8 0] := by kernel_rfl
    rw [hm] at o1
    exact x.newRow g1 o1
  have ix : ∀ j : Nat, j < 4 → prun Tryd.prog (Instr.indexAt 44 (.slice (some ⟨b, 0, none⟩) 4 4) (.int .i64 j)) = some (.pointer (some ((⟨b, 0, none⟩ : Addr).add j))) := fun j hj => by
    have := ix44 ⟨b, 0, none⟩ 4 4 .i64 (j : Int) (by omega) (by omega)
    simpa using this
  -- one round
  have round : ∀ (j : Nat) (xs : List Value) (w : World), j < 4 → Sat W (rowA 5 1 (.slice (some ⟨b, 0, none⟩) 4 4) 4 xs * X) w →
      ∃ w', f38.l0 C [.int .u64 n, .int .i64 4, .slice (some ⟨b, 0, none⟩) 4 4, .int .i64 4, .int .i64 j] w = some (.norm [.int .u64 n, .int .i64 4, .slice (some ⟨b, 0, none⟩) 4 4, .int .i64 4, .int .i64 ((j + 1 : Nat) : Int)] w') ∧
        Sat W (rowA 5 1 (.slice (some ⟨b, 0, none⟩) 4 4) 4 (xs.set j (.int .u8 ((n / 2 ^ (8 * (3 - j)) % 256 : Nat) : Int))) * X) w' := by
    intro j xs w hj x
    have p := piece_ok n (8 * (3 - j)) (by omega) (by omega) w
    obtain ⟨a, c, w', hv, k, x'⟩ := x.drew.put (P := Tryd.prog) (t := 5) inf5 size5 (j := j) (by omega) (u := .int .u8 ((n / 2 ^ (8 * (3 - j)) % 256 : Nat) : Int)) rfl rfl
    cases hv
    refine ⟨w', ?_, x'⟩
    have e1 : IntKind.i64.wrap (3 - (j : Int)) = 3 - (j : Int) := wrap_i64 (by omega) (by omega)
    have e2 : IntKind.i64.wrap (8 * (3 - (j : Int))) = ((8 * (3 - j) : Nat) : Int) := by rw [wrap_i64 (by omega) (by omega)]; omega
    have e3 : IntKind.i64.wrap ((j : Int) + 1) = ((j + 1 : Nat) : Int) := by rw [wrap_i64 (by omega) (by omega)]; rfl
    have e0 : IntKind.i64.wrap 3 = 3 := wrap_i64 (by omega) (by omega)
    have hlt : ((j : Int) < 4) = True := eq_true (by omega)
    have hi := ix j hj
    obtain ⟨z, hz⟩ : ∃ y : Int, y = ((n / 2 ^ (8 * (3 - j)) % 256 : Nat) : Int) := ⟨_, rfl⟩
    obtain ⟨q, hq⟩ : ∃ y : Int, y = ((8 * (3 - j) : Nat) : Int) := ⟨_, rfl⟩
    rw [← hz, ← hq] at p
    rw [← hz] at k
    rw [← hq] at e2
    simp [f38.l0, hlt, e0, e1, e2, p, hi, k, e3]
  obtain ⟨w2, r0, x2⟩ := round 0 _ w1 (by omega) x1
  obtain ⟨w3, r1, x3⟩ := round 1 _ w2 (by omega) x2
  obtain ⟨w4, r2, x4⟩ := round 2 _ w3 (by omega) x3
  obtain ⟨w5, r3, x5⟩ := round 3 _ w4 (by omega) x4
  have it : iter (f38.l0 C) [.int .u64 n, .int .i64 4, .slice (some ⟨b, 0, none⟩) 4 4, .int .i64 4, .int .i64 0] w1 = some (.exit 0 [.slice (some ⟨b, 0, none⟩) 4 4] w5) :=
    iter_once r0 (iter_once r1 (iter_once r2 (iter_once r3 (iter_of_rounds (.exit (by simp [f38.l0]))))))
  have e32 : IntKind.i64.wrap 32 = 32 := wrap_i64 (by omega) (by omega)
  have h38 : C 38 #[.int .u64 n, .int .i64 4] w = some (.tuple #[.slice (some ⟨b, 0, none⟩) 4 4, .int .i64 0], w5) := f38.run rfl (by simp [f38, e32, h51, k1, it])
  refine ⟨.slice (some ⟨b, 0, none⟩) 4 4, w5, f28.run rfl (by simp [f28, cv, h38]), ?_⟩
  rw [bv_be4]
  simpa using x5
end
end Go.Sh.YtodkllcibbidoaaDoor

namespace Go.Sh.YtodkllcibbidoaaDoor
open Go Go.Proofs Go.RowKit
set_option linter.unusedVariables false
set_option linter.unusedSimpArgs false
set_option maxRecDepth 100000
theorem or_eq (x y : Int) : bits .or .u64 x y = ((BitVec.ofInt 64 x ||| BitVec.ofInt 64 y).toNat : Int) := by
  unfold bits
  simp only []
  exact wrap_u64 (x := ((BitVec.ofInt 64 x ||| BitVec.ofInt 64 y).toNat : Int)) (by omega) (by have := (BitVec.ofInt 64 x ||| BitVec.ofInt 64 y).isLt; omega)
theorem or_add {x y : Nat} (hx : x < 72057594037927936) (hy : y < 256) : bits .or .u64 ((x * 256 : Nat) : Int) (y : Int) = ((x * 256 + y : Nat) : Int) := by
  rw [or_eq]
  have e1 : ∀ z : Nat, BitVec.ofInt 64 (z : Int) = BitVec.ofNat 64 z := fun z => by simp
  rw [e1, e1, BitVec.toNat_or, BitVec.toNat_ofNat, BitVec.toNat_ofNat, Nat.mod_eq_of_lt (by omega : x * 256 < 2 ^ 64), Nat.mod_eq_of_lt (by omega : y < 2 ^ 64)]
  have := Nat.two_pow_add_eq_or_of_lt (i := 8) (b := y) (by omega) x
  have e2 : x * 256 = 2 ^ 8 * x := by rw [Nat.mul_comm]
  rw [e2, this]
/-- the number of some bytes, the highest first -/
def num (l : List UInt8) : Nat := l.foldl (fun n c => n * 256 + c.toNat) 0
theorem num_add (l : List UInt8) (c : UInt8) : num (l ++ [c]) = num l * 256 + c.toNat := by simp [num]
theorem num_lt : ∀ (l : List UInt8), num l < 256 ^ l.length := by
  have key : ∀ (l : List UInt8) (n k : Nat), n < 256 ^ k → l.foldl (fun n c => n * 256 + c.toNat) n < 256 ^ (k + l.length) := by
    intro l
    induction l with
    | nil => intro n k h; simpa using h
    | cons c r ih =>
      intro n k h
      rw [List.foldl_cons, List.length_cons, show k + (r.length + 1) = (k + 1) + r.length by omega]
      refine ih _ _ ?_
      have := c.toNat_lt
      rw [Nat.pow_succ]
      have h2 : n + 1 ≤ 256 ^ k := h
      have := Nat.mul_le_mul_right 256 h2
      omega
  intro l
  have := key l 0 0 (by decide)
  rwa [Nat.zero_add] at this
theorem number_ok {w : World} {A : Option Addr} {c n : Nat} {l : List UInt8} (hr : Rd w A (bv l)) (h4 : 4 ≤ l.length) (hl : l.length = n) (hc : n ≤ c) (hm : c ≤ maxLen) :
    C 29 #[.slice A n c] w = some (.int .i64 (num (l.take 4)), w) := by
  obtain ⟨m, hml⟩ : ∃ m : List UInt8, m = l.take 4 := ⟨_, rfl⟩
  have hm4 : m.length = 4 := by rw [hml, List.length_take]; omega
  cases A with
  | none =>
    have h0 : bv l = [] := hr
    have h1 : l = [] := by simpa [bv] using h0
    rw [h1] at h4
    simp at h4
  | some a =>
    have hrd : ∀ j, (hj : j < 4) → w.cell? (a.add j) = some (.int .u8 ((m[j]'(by omega)).toNat)) := fun j hj => by
      refine hr j _ ?_
      simp only [bv, List.getElem?_map, hml, List.getElem_take, List.getElem?_eq_getElem (show j < l.length by omega), Option.map_some]
    have hsl := sl44 (some a) n c none (some (.int .i64 4)) none 0 4 c (by
      unfold Instr.sliceBounds
      simp [prun_bind, bound_ok .i64 4 c _ (by omega) (by omega)])
    have sl : prun Tryd.prog (Instr.sliceAt 44 (.slice (some a) n c) none (some (.int .i64 4)) none) = some (.slice (some a) 4 c) := by
      rw [hsl]
      simp [addL]
    have ix : ∀ j : Nat, j < 4 → prun Tryd.prog (Instr.indexAt 44 (.slice (some a) 4 c) (.int .i64 j)) = some (.pointer (some (a.add j))) := fun j hj => by
      have := ix44 a 4 c .i64 (j : Int) (by omega) (by omega)
      simpa using this
    have round : ∀ j : Nat, j < 4 → f39.l0 C [.int .u64 (num (m.take j)), .slice (some a) 4 c, .int .i64 4, .int .i64 j] w = some (.norm [.int .u64 (num (m.take (j + 1))), .slice (some a) 4 c, .int .i64 4, .int .i64 ((j + 1 : Nat) : Int)] w) := by
      intro j hj
      have hlt : ((j : Int) < 4) = True := eq_true (by omega)
      have hi := ix j hj
      have hc := hrd j hj
      have hn := num_lt (m.take j)
      have hpow : 256 ^ (m.take j).length ≤ 256 ^ 3 := Nat.pow_le_pow_right (by omega) (by rw [List.length_take]; omega)
      have hb := (m[j]'(by omega)).toNat_lt
      have e3 : IntKind.i64.wrap ((j : Int) + 1) = ((j + 1 : Nat) : Int) := by rw [wrap_i64 (by omega) (by omega)]; rfl
      have s1 : ∀ x y, prun Tryd.prog (do eqGuard .shl 90 x y (.int .u64 (num (m.take j))) (.int .u64 8); binOp .shl 90 (.int .u64 (num (m.take j))) (.int .u64 8)) = some (.int .u64 ((num (m.take j) * 256 : Nat) : Int)) := fun x y => by
        rw [p_shl _ _ _ _ _ _ _ (by omega)]
        have : ((num (m.take j) : Nat) : Int) * 2 ^ min (8 : Int).toNat IntKind.u64.bits = ((num (m.take j) * 256 : Nat) : Int) := by
          have h8 : min (8 : Int).toNat IntKind.u64.bits = 8 := rfl
          rw [h8]
          omega
        rw [this, wrap_u64 (by omega) (by omega)]
      have cv : prun Tryd.prog (convert 5 90 (.int .u8 ((m[j]'(by omega)).toNat))) = some (.int .u64 ((m[j]'(by omega)).toNat)) := by
        have : prun Tryd.prog (convert 5 90 (.int .u8 ((m[j]'(by omega)).toNat : Int))) = some (.int .u64 (IntKind.u64.wrap ((m[j]'(by omega)).toNat : Int))) := id (by kernel_rfl)
        rw [this, wrap_u64 (by omega) (by omega)]
      have o1 : ∀ x y, prun Tryd.prog (do eqGuard .or 90 x y (.int .u64 ((num (m.take j) * 256 : Nat) : Int)) (.int .u64 ((m[j]'(by omega)).toNat)); binOp .or 90 (.int .u64 ((num (m.take j) * 256 : Nat) : Int)) (.int .u64 ((m[j]'(by omega)).toNat))) = some (.int .u64 ((num (m.take (j + 1)) : Nat) : Int)) := fun x y => by
        rw [p_or, or_add (by omega) (by omega), List.take_add_one, List.getElem?_eq_getElem (by omega), Option.toList_some, num_add]
      obtain ⟨z, hz⟩ : ∃ z : Int, z = ((num (m.take j) * 256 : Nat) : Int) := ⟨_, rfl⟩
      obtain ⟨y, hy⟩ : ∃ z : Int, z = ((m[j]'(by omega)).toNat : Int) := ⟨_, rfl⟩
      rw [← hy] at hc cv o1
      rw [← hz] at s1 o1
      simp [f39.l0, hlt, hi, hc, s1, cv, o1, e3]
    have it : iter (f39.l0 C) [.int .u64 0, .slice (some a) 4 c, .int .i64 4, .int .i64 0] w = some (.exit 0 [.int .u64 (num (m.take 4))] w) :=
      iter_once (round 0 (by omega)) (iter_once (round 1 (by omega)) (iter_once (round 2 (by omega)) (iter_once (round 3 (by omega)) (iter_of_rounds (.exit (by simp [f39.l0]))))))
    have h39 : C 39 #[.slice (some a) 4 c] w = some (.tuple #[.int .u64 (num (m.take 4)), .int .i64 0], w) := f39.run rfl (by simp [f39, it])
    have hn := num_lt (m.take 4)
    have hpow : 256 ^ (m.take 4).length ≤ 256 ^ 4 := Nat.pow_le_pow_right (by omega) (by rw [List.length_take]; omega)
    have cv : prun Tryd.prog (convert 90 3 (.int .u64 (num (m.take 4)))) = some (.int .i64 (num (m.take 4))) := by
      have : prun Tryd.prog (convert 90 3 (.int .u64 (num (m.take 4) : Int))) = some (.int .i64 (IntKind.i64.wrap (num (m.take 4) : Int))) := id (by kernel_rfl)
      rw [this, wrap_i64 (by omega) (by omega)]
    have hmt : m.take 4 = l.take 4 := by rw [hml, List.take_take]; rfl
    rw [hmt] at h39 cv
    refine f29.run rfl ?_
    obtain ⟨z, hz⟩ : ∃ z : Int, z = (num (l.take 4) : Int) := ⟨_, rfl⟩
    rw [← hz] at h39 cv ⊢
    simp [f29, sl, h39, cv]
theorem equal_ok {w : World} {A B : Option Addr} {c d n m : Nat} {l k : List UInt8} (hr : Rd w A (bv l)) (hl : l.length = n) (hs : Rd w B (bv k)) (hk : k.length = m) : C 23 #[.slice A n c, .slice B m d] w = some (.bool (l == k), w) := by
  have t1 := tx44_9 (c := c) hl hr
  have t2 := tx44_9 (c := d) hk hs
  have e := fun x y => str_eql (P := Tryd.prog) (t := 9) x y l k
  refine f23.run rfl ?_
  simp [f23, t1, t2, e]
  exact (Bool.beq_eq_decide_eq l k).symm
end Go.Sh.YtodkllcibbidoaaDoor

namespace Go.Sh.YtodkllcibbidoaaDoor
open Go Go.Proofs Go.RowKit
set_option linter.unusedVariables false
set_option linter.unusedSimpArgs false
set_option maxRecDepth 100000
theorem ar_index {t e : TypeId} {n : Nat} {i : TypeInfo} (ht : Tryd.prog.underlying t = some (.array n e)) (hi : Tryd.prog.info? e = some i) (b o : Nat) (k : IntKind) (j : Nat) (hj : j < n) : prun Tryd.prog (Instr.indexAt t (.pointer (some ⟨b, o, none⟩)) (.int k j)) = some (.pointer (some ⟨b, o + j * i.size, none⟩)) := by
  have h2 : (j : Int) < n := by omega
  unfold Instr.indexAt
  simp only [asIntOf, prun_bind, prun_pure, prun_underlying ht, Option.bind_some, Instr.sureAddr]
  have hs : prun Tryd.prog (sizeOf e) = some i.size := by
    unfold sizeOf typeInfo
    simp [prun_bind, hi]
  simp [h2, hs, prun_bind, addL]
theorem cells_at {w : World} {b : Nat} {e : TypeId} {cs : List Value} (h : Blk w b e cs) : ∀ (l : List Value) (i : Nat), cs.drop i = l → cellsAt w ⟨b, 0, none⟩ i l
  | [], _, _ => trivial
  | v :: r, i, hl => by
    refine ⟨?_, cells_at h r (i + 1) (by rw [← List.tail_drop, hl]; rfl)⟩
    rw [addL, Nat.zero_add]
    refine h.cell_eq i ?_
    have := congrArg (fun l => l[0]?) hl
    simpa using this
theorem grown_of {W w : World} {X : Asn W.heap.size} (s : Sat W X w) : W.grownBy w none := ⟨s.1.os, s.1.tape, s.1.output, s.1.size, fun k hk _ => s.1.block k hk id⟩
theorem put_blk {W w : World} {R : Asn W.heap.size} {b : Nat} {e : TypeId} {cs cs' : List Value} (s : Sat W (blkA b e cs * R) w) {t : TypeId} {i : TypeInfo} (hi : Tryd.prog.info? t = some i) {v : Value} (hv : v.cells = cs'.toArray) (hs : cs'.length = i.size) (hl : cs'.length = cs.length) (h1 : ∀ u ∈ cs', u.oneCell' = true) :
    ∃ w', erun Tryd.prog (Instr.storeAt t (.pointer (some ⟨b, 0, none⟩)) v) w = some ((), w') ∧ Sat W (blkA b e cs' * R) w' := by
  obtain ⟨g, S, A, B, d, e', ⟨p, hb, hA⟩, q⟩ := s
  subst hA
  obtain ⟨w', k1, k2, k3⟩ := p.storeAll (P := Tryd.prog) (t := t) hi (o := 0) (v := v) (vs := cs') (cs' := cs') hv hs (by omega) h1 (by simp [hl])
  have hg : Grew (fun k => k = b) w w' := grew_of k3 fun k hk => .inl (by cases hk; rfl)
  exact ⟨w', k1, g.trans hg fun k hk => .inr (hk ▸ hb), fun k => k = b ∨ B k, fun k => k = b, B, d, rfl, ⟨k2, hb, rfl⟩, R.frame q hg fun k hB hk => d k hk hB⟩
/-! ### the table -/
noncomputable def tb1 (v : Int) : Int := if v.fdiv (2 ^ 31) = 1 then bits .xor .u32 (IntKind.u32.wrap (v * 2)) 79764919 else IntKind.u32.wrap (v * 2)
noncomputable def tbn (v : Int) : Nat → Int := fun k => Nat.rec v (fun _ r => tb1 r) k
noncomputable def tb (i : Nat) : Int := tbn (IntKind.u32.wrap ((i : Int) * 2 ^ 24)) 8
noncomputable def tcs (i : Nat) : List Value := (List.range 256).map fun k => .int .u32 (if k < i then tb k else 0)
theorem tcs_set {i : Nat} (hi : i < 256) : (tcs i).set i (.int .u32 (tb i)) = tcs (i + 1) := by
  refine List.ext_getElem? fun k => ?_
  simp only [tcs, List.getElem?_set, List.getElem?_map, List.length_map, List.length_range]
  by_cases hk : k < 256
  · rw [List.getElem?_range hk]
    by_cases hik : i = k
    · subst hik
      simp [hi]
    · have e : (k < i + 1) ↔ k < i := by omega
      simp [hik, e]
  · have : (List.range 256)[k]? = none := List.getElem?_eq_none (by simp; omega)
    rw [this]
    simp
    intro h
    omega
theorem i64a : Tryd.prog.info? 64 = some (inf 64) := by kernel_rfl
theorem s64a : (inf 64).size = 1 := by kernel_rfl
theorem i112 : Tryd.prog.info? 112 = some (inf 112) := by kernel_rfl
theorem s112 : (inf 112).size = 256 := by kernel_rfl
theorem alloc112 (w : World) : erun Tryd.prog (Instr.alloc 112 true (.tuple #[])) w = some (.pointer (some ⟨w.heap.size, 0, none⟩), w.alloc (.cells (List.replicate 256 (.int .u32 0)).toArray 112)) := id (by kernel_rfl)
theorem tcs_0 : List.replicate 256 (.int .u32 0) = tcs 0 := by
  refine List.ext_getElem? fun k => ?_
  simp only [tcs, List.getElem?_map, List.getElem?_replicate]
  by_cases hk : k < 256
  · rw [List.getElem?_range hk]
    simp [hk]
  · have : (List.range 256)[k]? = none := List.getElem?_eq_none (by simp; omega)
    rw [this]
    simp [hk]
theorem tcs_len (i : Nat) : (tcs i).length = 256 := by simp [tcs]
theorem shl32 (x : Int) (k : Nat) (hk : k ≤ 32) (a b : Operand) : prun Tryd.prog (do eqGuard .shl 64 a b (.int .u32 x) (.int .u64 (k : Int)); binOp .shl 64 (.int .u32 x) (.int .u64 (k : Int))) = some (.int .u32 (IntKind.u32.wrap (x * 2 ^ k))) := by
  rw [p_shl _ _ _ _ _ _ _ (by omega)]
  have e : min ((k : Nat) : Int).toNat IntKind.u32.bits = k := by
    have : IntKind.u32.bits = 32 := rfl
    omega
  rw [e]
theorem shr32 (x : Int) (k : Nat) (hk : k ≤ 32) (a b : Operand) : prun Tryd.prog (do eqGuard .shr 64 a b (.int .u32 x) (.int .u64 (k : Int)); binOp .shr 64 (.int .u32 x) (.int .u64 (k : Int))) = some (.int .u32 (x.fdiv (2 ^ k))) := by
  rw [p_shr _ _ _ _ _ _ _ (by omega)]
  have e : min ((k : Nat) : Int).toNat IntKind.u32.bits = k := by
    have : IntKind.u32.bits = 32 := rfl
    omega
  rw [e]
theorem tb_round (v0 t1 i2 v4 : Value) (x : Int) (j : Nat) (hj : j < 8) (w : World) : f64.l0 C [v0, t1, i2, .int .u32 x, v4, .int .i64 j] w = some (.norm [v0, t1, i2, .int .u32 (tb1 x), v4, .int .i64 ((j + 1 : Nat) : Int)] w) := by
  have hlt : ((j : Int) < 8) = True := eq_true (by omega)
  have e3 : IntKind.i64.wrap ((j : Int) + 1) = ((j + 1 : Nat) : Int) := by rw [wrap_i64 (by omega) (by omega)]; rfl
  have a1 : ∀ a b, prun Tryd.prog (do eqGuard .shr 64 a b (.int .u32 x) (.int .u64 31); binOp .shr 64 (.int .u32 x) (.int .u64 31)) = some (.int .u32 (x.fdiv (2 ^ 31))) := fun a b => shr32 x 31 (by omega) a b
  have a2 : ∀ a b, prun Tryd.prog (do eqGuard .shl 64 a b (.int .u32 x) (.int .u64 1); binOp .shl 64 (.int .u32 x) (.int .u64 1)) = some (.int .u32 (IntKind.u32.wrap (x * 2))) := fun a b => by
    have := shl32 x 1 (by omega) a b
    rwa [Int.pow_one] at this
  have a3 := fun a b => p_xor (P := Tryd.prog) 64 a b .u32 (IntKind.u32.wrap (x * 2)) 79764919
  obtain ⟨q, hq⟩ : ∃ q, q = x.fdiv (2 ^ 31) := ⟨_, rfl⟩
  obtain ⟨y, hy⟩ : ∃ y, y = IntKind.u32.wrap (x * 2) := ⟨_, rfl⟩
  have ht : tb1 x = if q = 1 then bits .xor .u32 y 79764919 else y := by rw [hq, hy]; rfl
  rw [ht]
  rw [← hq] at a1
  rw [← hy] at a2 a3
  by_cases h : q = 1
  · simp [f64.l0, hlt, a1, h, a2, a3, e3]
  · simp [f64.l0, hlt, a1, h, a2, e3]
theorem tb_loop (v0 t1 i2 v4 : Value) (x : Int) (w : World) : iter (f64.l0 C) [v0, t1, i2, .int .u32 x, v4, .int .i64 0] w = some (.exit 2 [v0, t1, i2, .int .u32 (tbn x 8), v4] w) := by
  have := iter_up (f := f64.l0 C) (w := w) 8 (fun j => [v0, t1, i2, .int .u32 (tbn x j), v4, .int .i64 j]) (r := .exit 2 [v0, t1, i2, .int .u32 (tbn x 8), v4] w) (fun _ _ => by intro h; cases h)
    (fun j hj => tb_round v0 t1 i2 v4 (tbn x j) j hj w) (by simp [f64.l0])
  exact this
section
variable {W : World} {X : Asn W.heap.size}
theorem table_ok {w : World} (x : Sat W X w) : ∃ w', C 64 #[] w = some (.agg (tcs 256).toArray, w') ∧ Sat W X w' := by
  have x1 := x.newBlk 112 (List.replicate 256 (.int .u32 0))
  have a1 := alloc112 w
  obtain ⟨w1, hw1⟩ : ∃ w1, w1 = w.alloc (.cells (List.replicate 256 (Value.int .u32 0)).toArray 112) := ⟨_, rfl⟩
  rw [← hw1] at x1 a1
  have x2 := x1.newBlk 112 (List.replicate 256 (.int .u32 0))
  have a2 := alloc112 w1
  obtain ⟨w2, hw2⟩ : ∃ w2, w2 = w1.alloc (.cells (List.replicate 256 (Value.int .u32 0)).toArray 112) := ⟨_, rfl⟩
  rw [← hw2] at x2 a2
  obtain ⟨b0, hb0⟩ : ∃ b, b = w.heap.size := ⟨_, rfl⟩
  obtain ⟨b1, hb1⟩ : ∃ b, b = w1.heap.size := ⟨_, rfl⟩
  rw [← hb0] at x2 a1
  rw [← hb1] at x2 a2
  rw [tcs_0] at x2
  have key := iter_down (f := f64.l1 C) (fun d vs w' => ∃ i : Nat, vs = [.pointer (some ⟨b0, 0, none⟩), .pointer (some ⟨b1, 0, none⟩), .int .i64 i] ∧ i + d = 256 ∧ Sat W (blkA b1 112 (tcs i) * (blkA b0 112 (tcs 0) * X)) w')
    (fun r => ∃ w', r = .exit 0 [.pointer (some ⟨b0, 0, none⟩), .pointer (some ⟨b1, 0, none⟩)] w' ∧ Sat W (blkA b1 112 (tcs 256) * (blkA b0 112 (tcs 0) * X)) w') (by
    rintro d vs w' ⟨i, rfl, hi, y⟩
    cases d with
    | zero =>
      obtain rfl : i = 256 := by omega
      exact .inr ⟨_, by simp [f64.l1], ⟨w', rfl, y⟩, fun _ _ h => by cases h⟩
    | succ d =>
      left
      have hlt : ((i : Int) < 256) = True := eq_true (by omega)
      have cv : prun Tryd.prog (convert 3 64 (.int .i64 (i : Int))) = some (.int .u32 (i : Int)) := by
        have : prun Tryd.prog (convert 3 64 (.int .i64 (i : Int))) = some (.int .u32 (IntKind.u32.wrap (i : Int))) := id (by kernel_rfl)
        rw [this, wrap_u32 (by omega) (by omega)]
      have s1 : ∀ a b, prun Tryd.prog (do eqGuard .shl 64 a b (.int .u32 (i : Int)) (.int .u64 24); binOp .shl 64 (.int .u32 (i : Int)) (.int .u64 24)) = some (.int .u32 (IntKind.u32.wrap ((i : Int) * 2 ^ 24))) := fun a b => shl32 (i : Int) 24 (by omega) a b
      have lp := tb_loop (.pointer (some ⟨b0, 0, none⟩)) (.pointer (some ⟨b1, 0, none⟩)) (.int .i64 i) (.int .i64 i) (IntKind.u32.wrap ((i : Int) * 2 ^ 24)) w'
      have ix := ar_index (t := 112) Tryd.underlying112 i64a b1 0 .i64 i (by omega)
      rw [s64a, Nat.mul_one, Nat.zero_add] at ix
      have e3 : IntKind.i64.wrap ((i : Int) + 1) = ((i + 1 : Nat) : Int) := by rw [wrap_i64 (by omega) (by omega)]; rfl
      have st := y.blk.store (P := Tryd.prog) (t := 64) (j := i) (v := .int .u32 (tb i)) i64a s64a (by rw [tcs_len]; omega) rfl rfl
      have y2 := y.store i (.int .u32 (tb i)) (tcs_set (by omega))
      have htb : tbn (IntKind.u32.wrap ((i : Int) * 2 ^ 24)) 8 = tb i := rfl
      rw [htb] at lp
      obtain ⟨q, hq⟩ : ∃ q, q = IntKind.u32.wrap ((i : Int) * 2 ^ 24) := ⟨_, rfl⟩
      rw [← hq] at s1 lp
      obtain ⟨T, hT⟩ : ∃ T, T = tb i := ⟨_, rfl⟩
      rw [← hT] at lp st y2
      refine ⟨d, [.pointer (some ⟨b0, 0, none⟩), .pointer (some ⟨b1, 0, none⟩), .int .i64 ((i + 1 : Nat) : Int)], w'.setCell ⟨b1, i, none⟩ (.int .u32 T), by omega, ?_, i + 1, rfl, by omega, y2⟩
      simp [f64.l1, hlt, cv, s1, lp, ix, st, e3])
    256 [.pointer (some ⟨b0, 0, none⟩), .pointer (some ⟨b1, 0, none⟩), .int .i64 (0 : Nat)] w2 ⟨0, rfl, rfl, by rw [← tcs_0] at x2 ⊢; exact x2⟩
  obtain ⟨r, h1, w3, rfl, x3⟩ := key
  have h1 : iter (f64.l1 C) [.pointer (some ⟨b0, 0, none⟩), .pointer (some ⟨b1, 0, none⟩), .int .i64 0] w2 = some (.exit 0 [.pointer (some ⟨b0, 0, none⟩), .pointer (some ⟨b1, 0, none⟩)] w3) := h1
  have hsz : (tcs 256).length = (inf 112).size := by rw [tcs_len, s112]
  have l3 : rrun Tryd.prog (Instr.loadAt 112 (.pointer (some ⟨b1, 0, none⟩))) w3 = some (.agg (tcs 256).toArray) := load_agg i112 (by kernel_rfl) hsz (cells_at x3.blk (tcs 256) 0 rfl)
  obtain ⟨w4, k4, x4⟩ := put_blk (x3.eq (by ac_rfl : _ = blkA b0 112 (tcs 0) * (blkA b1 112 (tcs 256) * X))) i112 (v := .agg (tcs 256).toArray) (cs' := tcs 256) rfl hsz (by rw [tcs_len, tcs_len]) (fun u hu => by
    unfold tcs at hu
    obtain ⟨i, _, rfl⟩ := List.mem_map.mp hu
    rfl)
  have l4 : rrun Tryd.prog (Instr.loadAt 112 (.pointer (some ⟨b0, 0, none⟩))) w4 = some (.agg (tcs 256).toArray) := load_agg i112 (by kernel_rfl) hsz (cells_at x4.blk (tcs 256) 0 rfl)
  obtain ⟨V, hV⟩ : ∃ V, V = (tcs 256).toArray := ⟨_, rfl⟩
  rw [← hV] at l3 k4 l4 ⊢
  refine ⟨w4, f64.run rfl ?_, (x4.right).right⟩
  simp [f64, a1, a2, h1, l3, k4, Res.doneR, loadsOf, l4, outcome]
end
end Go.Sh.YtodkllcibbidoaaDoor

namespace Go.Sh.YtodkllcibbidoaaDoor
open Go Go.Proofs Go.RowKit
set_option linter.unusedVariables false
set_option linter.unusedSimpArgs false
set_option maxRecDepth 100000
/-- which of the table's remainders -/
noncomputable def cix (r : Int) (c : UInt8) : Int := bits .xor .u8 (IntKind.u8.wrap (r.fdiv (2 ^ 24))) c.toNat
theorem cix_range (r : Int) (c : UInt8) : 0 ≤ cix r c ∧ cix r c ≤ 255 := by
  unfold cix bits
  exact wrap_u8_range _
noncomputable def cstep (r : Int) (c : UInt8) : Int := bits .xor .u32 (IntKind.u32.wrap (r * 2 ^ 8)) (tb (cix r c).toNat)
/-- the sum of bytes -/
noncomputable def csum (l : List UInt8) : Int := bits .xor .u32 4294967295 (l.foldl cstep (bits .xor .u32 4294967295 0))
theorem u32_range (z : Int) : 0 ≤ IntKind.u32.wrap z ∧ IntKind.u32.wrap z < 4294967296 := by
  simp [IntKind.wrap, IntKind.signed, IntKind.bits]
  omega
theorem bits_u32 (x y : Int) : 0 ≤ bits .xor .u32 x y ∧ bits .xor .u32 x y < 4294967296 := by
  unfold bits
  exact u32_range _
theorem csum_range (l : List UInt8) : 0 ≤ csum l ∧ csum l < 4294967296 := bits_u32 _ _
theorem un_xor (x : Int) : prun Tryd.prog (Op.unary .xor (.int .u32 x)) = some (.int .u32 (bits .xor .u32 4294967295 x)) := id (by kernel_rfl)
section
variable {W : World} {X : Asn W.heap.size}
theorem divide_ok {w : World} (x : Sat W X w) (r0 : Int) {A : Option Addr} {c n : Nat} {l : List UInt8} (hr : ∀ w', w.grownBy w' none → Rd w' A (bv l)) (hl : l.length = n) (hn : n ≤ 1000000000) :
    ∃ w', C 63 #[.int .u32 r0, .slice A n c] w = some (.int .u32 (l.foldl cstep r0), w') ∧ w.grownBy w' none ∧ Sat W X w' := by
  have s0 : Sat w emp w := ⟨Grew.refl _ _, fun _ => False, rfl⟩
  obtain ⟨w1, k1, y1⟩ := table_ok s0
  have z1 := y1.newBlk 112 (List.replicate 256 (.int .u32 0))
  have a1 := alloc112 w1
  obtain ⟨w2, hw2⟩ : ∃ w2, w2 = w1.alloc (.cells (List.replicate 256 (Value.int .u32 0)).toArray 112) := ⟨_, rfl⟩
  rw [← hw2] at z1 a1
  obtain ⟨b, hb⟩ : ∃ b, b = w1.heap.size := ⟨_, rfl⟩
  rw [← hb] at z1 a1
  have hsz : (tcs 256).length = (inf 112).size := by rw [tcs_len, s112]
  obtain ⟨w3, k3, z3⟩ := put_blk z1 i112 (v := .agg (tcs 256).toArray) (cs' := tcs 256) rfl hsz (by rw [tcs_len]; simp) (fun u hu => by
    unfold tcs at hu
    obtain ⟨i, _, rfl⟩ := List.mem_map.mp hu
    rfl)
  have g3 := grown_of z3
  have hr3 := hr w3 g3
  have hT : ∀ j : Nat, j < 256 → w3.cell? ⟨b, j, none⟩ = some (.int .u32 (tb j)) := fun j hj => z3.cell j (by
    rw [tcs, List.getElem?_map, List.getElem?_range hj]
    simp [hj])
  have len : ∀ t, prun Tryd.prog (Builtin.len_ #[44] t #[.slice A n c]) = some (.int .i64 n) := fun t => len44 t A n c
  have it : iter (f63.l0 C) [.int .u32 r0, .pointer (some ⟨b, 0, none⟩), .slice A n c, .int .i64 n, .int .i64 0] w3 = some (.exit 0 [.int .u32 (l.foldl cstep r0)] w3) := by
    have := iter_up (f := f63.l0 C) (w := w3) n (fun j => [.int .u32 ((l.take j).foldl cstep r0), .pointer (some ⟨b, 0, none⟩), .slice A n c, .int .i64 n, .int .i64 j]) (r := .exit 0 [.int .u32 (l.foldl cstep r0)] w3) (fun _ _ => by intro h; cases h)
      (fun j hj => ?_) (by
        rw [List.take_of_length_le (by omega)]
        simp [f63.l0])
    · exact this
    · have hjl : j < l.length := by omega
      have hlt : ((j : Int) < (n : Int)) = True := eq_true (by omega)
      cases A with
      | none =>
        have h0 : bv l = [] := hr3
        have h1 : l = [] := by simpa [bv] using h0
        rw [h1] at hjl
        simp at hjl
      | some a =>
        have ix := ix44 a n c .i64 (j : Int) (by omega) (by omega)
        have hc := hr3 j (.int .u8 (l[j]).toNat) (by simp [bv, hjl])
        have e3 : IntKind.i64.wrap ((j : Int) + 1) = ((j + 1 : Nat) : Int) := by rw [wrap_i64 (by omega) (by omega)]; rfl
        obtain ⟨R, hR⟩ : ∃ R, R = (l.take j).foldl cstep r0 := ⟨_, rfl⟩
        have hnext : (l.take (j + 1)).foldl cstep r0 = cstep R l[j] := by
          rw [List.take_add_one, List.getElem?_eq_getElem hjl, Option.toList_some, List.foldl_append, ← hR]
          rfl
        show f63.l0 C [.int .u32 ((l.take j).foldl cstep r0), _, _, _, _] w3 = some (.norm [.int .u32 ((l.take (j + 1)).foldl cstep r0), _, _, _, _] w3)
        rw [hnext, ← hR]
        obtain ⟨h0, h1⟩ := cix_range R l[j]
        have ia := ar_index (t := 112) Tryd.underlying112 i64a b 0 .u8 (cix R l[j]).toNat (by omega)
        rw [s64a, Nat.mul_one, Nat.zero_add, Int.toNat_of_nonneg h0] at ia
        have tc := hT (cix R l[j]).toNat (by omega)
        have b1 : ∀ x y, prun Tryd.prog (do eqGuard .shl 64 x y (.int .u32 R) (.int .u64 8); binOp .shl 64 (.int .u32 R) (.int .u64 8)) = some (.int .u32 (IntKind.u32.wrap (R * 2 ^ 8))) := fun x y => shl32 R 8 (by omega) x y
        have b2 : ∀ x y, prun Tryd.prog (do eqGuard .shr 64 x y (.int .u32 R) (.int .u64 24); binOp .shr 64 (.int .u32 R) (.int .u64 24)) = some (.int .u32 (R.fdiv (2 ^ 24))) := fun x y => shr32 R 24 (by omega) x y
        have cv : ∀ z : Int, prun Tryd.prog (convert 64 5 (.int .u32 z)) = some (.int .u8 (IntKind.u8.wrap z)) := fun z => id (by kernel_rfl)
        have cv1 := cv (R.fdiv (2 ^ 24))
        have x1 : ∀ x y, prun Tryd.prog (do eqGuard .xor 5 x y (.int .u8 (IntKind.u8.wrap (R.fdiv (2 ^ 24)))) (.int .u8 (l[j]).toNat); binOp .xor 5 (.int .u8 (IntKind.u8.wrap (R.fdiv (2 ^ 24)))) (.int .u8 (l[j]).toNat)) = some (.int .u8 (cix R l[j])) := fun x y => p_xor (P := Tryd.prog) 5 x y .u8 _ _
        have x2 : ∀ x y, prun Tryd.prog (do eqGuard .xor 64 x y (.int .u32 (IntKind.u32.wrap (R * 2 ^ 8))) (.int .u32 (tb (cix R l[j]).toNat)); binOp .xor 64 (.int .u32 (IntKind.u32.wrap (R * 2 ^ 8))) (.int .u32 (tb (cix R l[j]).toNat))) = some (.int .u32 (cstep R l[j])) := fun x y => p_xor (P := Tryd.prog) 64 x y .u32 _ _
        obtain ⟨S, hS⟩ : ∃ S, S = cstep R l[j] := ⟨_, rfl⟩
        obtain ⟨K, hK⟩ : ∃ K, K = cix R l[j] := ⟨_, rfl⟩
        obtain ⟨T, hT'⟩ : ∃ T, T = tb (cix R l[j]).toNat := ⟨_, rfl⟩
        obtain ⟨q1, hq1⟩ : ∃ q, q = IntKind.u32.wrap (R * 2 ^ 8) := ⟨_, rfl⟩
        obtain ⟨q2, hq2⟩ : ∃ q, q = R.fdiv (2 ^ 24) := ⟨_, rfl⟩
        obtain ⟨q3, hq3⟩ : ∃ q, q = IntKind.u8.wrap q2 := ⟨_, rfl⟩
        obtain ⟨ch, hch⟩ : ∃ q : Int, q = (l[j]).toNat := ⟨_, rfl⟩
        rw [← hT'] at tc x2
        rw [← hS] at x2 ⊢
        rw [← hK] at x1 ia tc
        rw [← hq1] at b1 x2
        rw [← hq2] at b2 cv1 x1
        rw [← hq3] at cv1 x1
        rw [← hch] at hc x1
        simp [f63.l0, hlt, ix, hc, b1, b2, cv1, x1, ia, tc, x2, e3]
  obtain ⟨V, hV⟩ : ∃ V, V = (tcs 256).toArray := ⟨_, rfl⟩
  rw [← hV] at k1 k3
  refine ⟨w3, f63.run rfl ?_, g3, x.grown g3⟩
  simp [f63, k1, a1, k3, it]
theorem sum_ok {w : World} (x : Sat W X w) {A : Option Addr} {c n : Nat} {l : List UInt8} (hr : ∀ w', w.grownBy w' none → Rd w' A (bv l)) (hl : l.length = n) (hn : n ≤ 1000000000) :
    ∃ w', C 37 #[.slice A n c] w = some (.int .u32 (csum l), w') ∧ w.grownBy w' none ∧ Sat W X w' := by
  obtain ⟨w1, k1, g1, x1⟩ := divide_ok x (bits .xor .u32 4294967295 0) (c := c) hr hl hn
  have u1 := un_xor 0
  have u2 := un_xor (l.foldl cstep (bits .xor .u32 4294967295 0))
  have hS : bits .xor .u32 4294967295 (l.foldl cstep (bits .xor .u32 4294967295 0)) = csum l := rfl
  rw [hS] at u2
  obtain ⟨q, hq⟩ : ∃ q, q = bits .xor .u32 4294967295 0 := ⟨_, rfl⟩
  rw [← hq] at k1 u1 u2
  obtain ⟨S, hS'⟩ : ∃ S, S = csum l := ⟨_, rfl⟩
  rw [← hS'] at u2 ⊢
  obtain ⟨D, hD⟩ : ∃ D, D = l.foldl cstep q := ⟨_, rfl⟩
  rw [← hD] at k1 u2
  have h50 : C 50 #[.int .u32 0, .slice A n c] w = some (.int .u32 S, w1) := f50.run rfl (by simp [f50, u1, k1, u2])
  exact ⟨w1, f37.run rfl (by simp [f37, h50]), g1, x1⟩
end
end Go.Sh.YtodkllcibbidoaaDoor

namespace Go.Sh.YtodkllcibbidoaaDoor
open Go Go.Proofs Go.RowKit Go.Lib
set_option linter.unusedVariables false
set_option linter.unusedSimpArgs false
set_option maxRecDepth 100000
/-- bytes as a slice tells them -/
def Part (w : World) (v : Value) (l : List UInt8) : Prop := ∃ A c, v = .slice A l.length c ∧ Rd w A (bv l) ∧ (A = none → c = 0)
theorem Part.grown {w w' : World} {v : Value} {l : List UInt8} (h : Part w v l) (g : w.grownBy w' none) : Part w' v l := by
  obtain ⟨A, c, h1, h2, h3⟩ := h
  exact ⟨A, c, h1, h2.grown g, h3⟩
theorem mnz (n : Nat) (hn : n ≤ 1000000000) (w : World) : ∃ cs : Array Value, xrun Tryd.prog (callFunc 49 #[.int .i64 n]) w = some (.slice (some ⟨w.heap.size, 0, none⟩) n cs.size, w.drew.drew.alloc (.cells cs 5)) ∧ n ≤ cs.size := by
  have he : Extern.find Tryd.f49 = some (Extern.BytealgMakeNoZero.makeNoZero #[3] #[44]) := by kernel_rfl
  obtain ⟨cs, h1, h2, _⟩ := run_makeNoZero (P := Tryd.prog) w #[3] 44 5 Tryd.underlying44 n (by omega)
  refine ⟨cs, ?_, h2⟩
  unfold xrun
  rw [run_callFunc_extern Tryd.func49 (by kernel_rfl) (by kernel_rfl) (by kernel_rfl) he, h1]
  simp [Result.andThen]
theorem blk_step {W w w' : World} {R : Asn W.heap.size} {b : Nat} {e : TypeId} {cs cs' : List Value} (s : Sat W (blkA b e cs * R) w) (k2 : Blk w' b e cs') (k3 : w.grownBy w' (some b)) : Sat W (blkA b e cs' * R) w' := by
  obtain ⟨g, S, A, B, d, e', ⟨p, hb, hA⟩, q⟩ := s
  subst hA
  have hg : Grew (fun k => k = b) w w' := grew_of k3 fun k hk => .inl (by cases hk; rfl)
  exact ⟨g.trans hg fun k hk => .inr (hk ▸ hb), fun k => k = b ∨ B k, fun k => k = b, B, d, rfl, ⟨k2, hb, rfl⟩, R.frame q hg fun k hB hk => d k hk hB⟩
theorem bv_one (l : List UInt8) : ∀ v ∈ bv l, v.oneCell' = true := by
  intro v hv
  obtain ⟨c, _, rfl⟩ := List.mem_map.mp hv
  rfl
theorem bv_length (l : List UInt8) : (bv l).length = l.length := by simp [bv]
theorem join_l0 {w : World} {P : Addr} {k c : Nat} {sep : Value} {ps : List (Value × List UInt8)} (hk : ps.length = k) (hkk : k ≤ 1000000) (hP : Rd w (some P) (ps.map (·.1))) (hp : ∀ p ∈ ps, Part w p.1 p.2) (htot : (ps.flatMap (·.2)).length ≤ 1000000000) :
    iter (f36.l0 C) [.slice (some P) k c, sep, .int .i64 0, .slice (some P) k c, .int .i64 k, .int .i64 0] w = some (.exit 0 [.slice (some P) k c, sep, .int .i64 (ps.flatMap (·.2)).length] w) := by
  have := iter_up (f := f36.l0 C) (w := w) k (fun j => [.slice (some P) k c, sep, .int .i64 ((ps.take j).flatMap (·.2)).length, .slice (some P) k c, .int .i64 k, .int .i64 j]) (r := .exit 0 [.slice (some P) k c, sep, .int .i64 (ps.flatMap (·.2)).length] w) (fun _ _ => by intro h; cases h)
    (fun j hj => ?_) (by
      rw [List.take_of_length_le (by omega)]
      simp [f36.l0])
  · exact this
  · have hjl : j < ps.length := by omega
    have hlt : ((j : Int) < (k : Int)) = True := eq_true (by omega)
    obtain ⟨A, d, hv, _, _⟩ := hp ps[j] (List.getElem_mem hjl)
    have hc := hP j (ps[j]).1 (by simp [hjl])
    rw [hv] at hc
    have ix := ix86 P k c .i64 (j : Int) (by omega) (by omega)
    have hsum : ((ps.take (j + 1)).flatMap (·.2)).length = ((ps.take j).flatMap (·.2)).length + (ps[j]).2.length := by
      rw [List.take_add_one, List.getElem?_eq_getElem hjl, Option.toList_some, List.flatMap_append, List.length_append]
      simp
    have hle : ((ps.take (j + 1)).flatMap (·.2)).length ≤ (ps.flatMap (·.2)).length := by
      conv => rhs; rw [← List.take_append_drop (j + 1) ps]
      rw [List.flatMap_append, List.length_append]
      omega
    show f36.l0 C [_, _, .int .i64 ((ps.take j).flatMap (·.2)).length, _, _, .int .i64 j] w = some (.norm [_, _, .int .i64 ((ps.take (j + 1)).flatMap (·.2)).length, _, _, .int .i64 ((j + 1 : Nat) : Int)] w)
    rw [hsum]
    obtain ⟨a, ha⟩ : ∃ a, a = ((ps.take j).flatMap (·.2)).length := ⟨_, rfl⟩
    obtain ⟨L, hL⟩ : ∃ a, a = (ps[j]).2.length := ⟨_, rfl⟩
    rw [← ha, ← hL] at hsum ⊢
    rw [← hL] at hc
    have e1 : IntKind.i64.wrap (9223372036854775807 - (a : Int)) = 9223372036854775807 - (a : Int) := wrap_i64 (by omega) (by omega)
    have e2 : ((L : Int) > 9223372036854775807 - (a : Int)) = False := eq_false (by omega)
    have e3 : IntKind.i64.wrap ((j : Int) + 1) = ((j + 1 : Nat) : Int) := by rw [wrap_i64 (by omega) (by omega)]; rfl
    have e4 : IntKind.i64.wrap ((a : Int) + (L : Int)) = ((a + L : Nat) : Int) := by rw [wrap_i64 (by omega) (by omega)]; rfl
    simp [f36.l0, hlt, ix, hc, e1, e2, e3, e4]
/-- one part, copied behind what was joined -/
theorem join_put {w0 w : World} {b N : Nat} {cur : List Value} (x : Sat w0 (blkA b 5 cur * emp) w) {A : Option Addr} {l : List UInt8} {d pos : Nat} (hr : Rd w A (bv l)) (hnil : A = none → d = 0) (hN : N ≤ cur.length) (hpos : pos + l.length ≤ N) (hNN : N ≤ 1000000000) :
    ∃ v w' cur', prun Tryd.prog (Instr.sliceAt 44 (.slice (some ⟨b, 0, none⟩) N N) (some (.int .i64 pos)) none none) = some v ∧ erun Tryd.prog (Builtin.copy_ #[44, 44] 3 #[v, .slice A l.length d]) w = some (.int .i64 l.length, w') ∧ Sat w0 (blkA b 5 cur' * emp) w' ∧
      cur'.length = cur.length ∧ cur'.take (pos + l.length) = cur.take pos ++ bv l := by
  have hsl := sl44 (some ⟨b, 0, none⟩) N N (some (.int .i64 pos)) none none pos N N (by
    have := bounds_lo (P := Tryd.prog) N N .i64 (pos : Int) (by omega) (by omega)
    rw [this]; rfl)
  by_cases h : N = pos
  · have hl : l = [] := List.eq_nil_of_length_eq_zero (by omega)
    subst hl
    rw [if_pos h] at hsl
    obtain ⟨w', k1, k2, k3⟩ := e_copy (P := Tryd.prog) x.blk (dT := 44) (sT := 44) (ty := 3) Tryd.underlying44 inf5 size5 (o := 0) (dn := N - pos) (dc := N - pos) (sn := 0) (sc := d) hr rfl hnil (by simp) (fun v hv => by simp [bv] at hv)
    refine ⟨_, w', cur, hsl, by simpa using k1, ?_, rfl, ?_⟩
    · have : cur.take 0 ++ (bv []).take (N - pos) ++ cur.drop (0 + min 0 (N - pos)) = cur := by simp [bv]
      rw [this] at k2
      exact blk_step x k2 k3
    · simp [bv]
  · rw [if_neg h] at hsl
    have hm : min l.length (N - pos) = l.length := by omega
    obtain ⟨w', k1, k2, k3⟩ := e_copy (P := Tryd.prog) x.blk (dT := 44) (sT := 44) (ty := 3) Tryd.underlying44 inf5 size5 (o := pos) (dn := N - pos) (dc := N - pos) (sn := l.length) (sc := d) hr (bv_length l) hnil (by rw [hm]; omega) (bv_one l)
    rw [hm] at k1 k2
    have hsl' : prun Tryd.prog (Instr.sliceAt 44 (.slice (some ⟨b, 0, none⟩) N N) (some (.int .i64 pos)) none none) = some (.slice (some ⟨b, pos, none⟩) (N - pos) (N - pos)) := by
      rw [hsl]
      simp [addL]
    have ht : (bv l).take (N - pos) = bv l := List.take_of_length_le (by rw [bv_length]; omega)
    rw [ht] at k2
    refine ⟨_, w', _, hsl', k1, blk_step x k2 k3, ?_, ?_⟩
    · simp only [List.length_append, List.length_take, List.length_drop, bv_length]; omega
    · rw [List.take_append_of_le_length (by simp only [List.length_append, List.length_take, bv_length]; omega)]
      refine List.take_of_length_le ?_
      simp only [List.length_append, List.length_take, bv_length]; omega
theorem join_ok {w : World} {P : Addr} {k c : Nat} {ps : List (Value × List UInt8)} (hk : ps.length = k) (h2 : 2 ≤ k) (hc : k ≤ c) (hkk : k ≤ 1000000) (hP : Rd w (some P) (ps.map (·.1))) (hp : ∀ p ∈ ps, Part w p.1 p.2) (htot : (ps.flatMap (·.2)).length ≤ 1000000000) :
    ∃ b w', C 36 #[.slice (some P) k c, .slice none 0 0] w = some (.slice (some ⟨b, 0, none⟩) (ps.flatMap (·.2)).length (ps.flatMap (·.2)).length, w') ∧ Rd w' (some ⟨b, 0, none⟩) (bv (ps.flatMap (·.2))) ∧ w.grownBy w' none := by
  obtain ⟨N, hN⟩ : ∃ N, N = (ps.flatMap (·.2)).length := ⟨_, rfl⟩
  have l0 := join_l0 (c := c) (sep := .slice none 0 0) hk hkk hP hp htot
  rw [← hN] at l0 htot ⊢
  obtain ⟨cs, m1, hcs⟩ := mnz N htot w
  have s0 : Sat w emp w := ⟨Grew.refl _ _, fun _ => False, rfl⟩
  have x1 := s0.drew.drew.newBlk 5 cs.toList
  obtain ⟨w1, hw1⟩ : ∃ w1, w1 = w.drew.drew.alloc (.cells cs 5) := ⟨_, rfl⟩
  have x1 : Sat w (blkA w.heap.size 5 cs.toList * emp) w1 := by rw [hw1]; simpa using x1
  rw [← hw1] at m1
  obtain ⟨b, hb⟩ : ∃ b, b = w.heap.size := ⟨_, rfl⟩
  have x1 : Sat w (blkA b 5 cs.toList * emp) w1 := hb ▸ x1
  rw [← hb] at m1
  have hsl := sl44 (some ⟨b, 0, none⟩) N cs.size none (some (.int .i64 N)) (some (.int .i64 N)) 0 N N (by
    have := bounds_himax (P := Tryd.prog) N cs.size .i64 .i64 (N : Int) (N : Int) (by omega) (by omega) (by omega)
    rw [this]; rfl)
  have hsl : prun Tryd.prog (Instr.sliceAt 44 (.slice (some ⟨b, 0, none⟩) N cs.size) none (some (.int .i64 N)) (some (.int .i64 N))) = some (.slice (some ⟨b, 0, none⟩) N N) := by
    rw [hsl]
    simp [addL]
  obtain ⟨p0, tl, rfl⟩ : ∃ p0 tl, ps = p0 :: tl := by
    cases ps with
    | nil => simp at hk; omega
    | cons a r => exact ⟨a, r, rfl⟩
  have hNl : N = p0.2.length + (tl.flatMap (·.2)).length := by rw [hN]; simp
  -- the first part
  obtain ⟨A0, d0, hv0, hr0, hn0⟩ := (hp p0 (by simp)).grown (grown_of x1)
  obtain ⟨v0, w2, cur0, q1, q2, x2, c2, t2⟩ := join_put (N := N) x1 (pos := 0) hr0 hn0 (by simpa using hcs) (by omega) htot
  have q1' : v0 = .slice (some ⟨b, 0, none⟩) N N := by
    have := sl44 (some ⟨b, 0, none⟩) N N (some (.int .i64 0)) none none 0 N N (by
      have := bounds_lo (P := Tryd.prog) N N .i64 (0 : Int) (by omega) (by omega)
      rw [this]; rfl)
    have e : prun Tryd.prog (Instr.sliceAt 44 (.slice (some ⟨b, 0, none⟩) N N) (some (.int .i64 0)) none none) = some v0 := q1
    rw [this] at e
    have e := Option.some.inj e
    rw [← e]
    by_cases h : N = 0 <;> simp [h, addL]
  subst q1'
  have hc0 := hP.grown (grown_of x1) 0 p0.1 (by simp)
  rw [hv0] at hc0
  have hc0 : w1.cell? P = some (.slice A0 p0.2.length d0) := by simpa [addL] using hc0
  have ix0 : prun Tryd.prog (Instr.indexAt 86 (.slice (some P) k c) (.int .i64 0)) = some (.pointer (some P)) := by
    have := ix86 P k c .i64 0 (by omega) (by omega)
    simpa using this
  have sl1 := sl86 (some P) k c (some (.int .i64 1)) none none 1 k c (by
    have := bounds_lo (P := Tryd.prog) k c .i64 (1 : Int) (by omega) (by omega)
    rw [this]; rfl)
  rw [if_neg (by omega)] at sl1
  have sl1 : prun Tryd.prog (Instr.sliceAt 86 (.slice (some P) k c) (some (.int .i64 1)) none none) = some (.slice (some (P.add 1)) (k - 1) (c - 1)) := by
    rw [sl1]
    simp
  have htk : tl.length = k - 1 := by simp at hk; omega
  -- the other parts
  have key := iter_down (f := f36.l1 C) (fun d vs w' => ∃ (j : Nat) (cur : List Value), vs = [.slice none 0 0, .slice (some ⟨b, 0, none⟩) N N, .int .i64 ((p0.2.length + ((tl.take j).flatMap (·.2)).length : Nat) : Int), .slice (some (P.add 1)) (k - 1) (c - 1), .int .i64 ((k - 1 : Nat) : Int), .int .i64 j] ∧ j + d = tl.length ∧ Sat w (blkA b 5 cur * emp) w' ∧
      N ≤ cur.length ∧ cur.take (p0.2.length + ((tl.take j).flatMap (·.2)).length) = bv (p0.2 ++ (tl.take j).flatMap (·.2)))
    (fun r => ∃ w' cur, r = .exit 2 [.slice (some ⟨b, 0, none⟩) N N] w' ∧ Sat w (blkA b 5 cur * emp) w' ∧ N ≤ cur.length ∧ cur.take N = bv (p0.2 ++ tl.flatMap (·.2))) (by
    rintro d vs w' ⟨j, cur, rfl, hj, y, hcl, ht⟩
    cases d with
    | zero =>
      obtain rfl : j = tl.length := by omega
      rw [List.take_of_length_le (Nat.le_refl _)] at ht
      exact .inr ⟨_, by simp [f36.l1, htk], ⟨w', cur, rfl, y, hcl, by rw [hNl]; exact ht⟩, fun _ _ h => by cases h⟩
    | succ d =>
      left
      have hjl : j < tl.length := by omega
      have hlt : ((j : Int) < ((k - 1 : Nat) : Int)) = True := eq_true (by omega)
      obtain ⟨A, e, hv, hr, hn⟩ := hp tl[j] (by simp)
      have hcell := hP.grown (grown_of y) (j + 1) (tl[j]).1 (by simp [hjl])
      rw [hv] at hcell
      have ix := ix86 (P.add 1) (k - 1) (c - 1) .i64 (j : Int) (by omega) (by omega)
      have ix : prun Tryd.prog (Instr.indexAt 86 (.slice (some (P.add 1)) (k - 1) (c - 1)) (.int .i64 j)) = some (.pointer (some (P.add (j + 1)))) := by
        rw [ix, Addr.add_add]
        simp [Nat.add_comm]
      have hsum : ((tl.take (j + 1)).flatMap (·.2)) = ((tl.take j).flatMap (·.2)) ++ (tl[j]).2 := by
        rw [List.take_add_one, List.getElem?_eq_getElem hjl, Option.toList_some, List.flatMap_append]
        simp
      have hle : ((tl.take (j + 1)).flatMap (·.2)).length ≤ (tl.flatMap (·.2)).length := by
        conv => rhs; rw [← List.take_append_drop (j + 1) tl]
        rw [List.flatMap_append, List.length_append]
        omega
      have hsl2 := congrArg List.length hsum
      rw [List.length_append] at hsl2
      obtain ⟨pos, hpos⟩ : ∃ q, q = p0.2.length + ((tl.take j).flatMap (·.2)).length := ⟨_, rfl⟩
      rw [← hpos] at ht ⊢
      obtain ⟨vA, wA, curA, a1, a2, yA, cA, tA⟩ := join_put (N := N) y (A := none) (l := []) (d := 0) (pos := pos) rfl (fun _ => rfl) hcl (by simp; omega) htot
      obtain ⟨vB, wB, curB, b1, b2, yB, cB, tB⟩ := join_put (N := N) yA (pos := pos) (hr.grown (grown_of yA)) hn (by omega) (by omega) htot
      have e1 : IntKind.i64.wrap (pos : Int) = (pos : Int) := wrap_i64 (by omega) (by omega)
      have e3 : IntKind.i64.wrap ((j : Int) + 1) = ((j + 1 : Nat) : Int) := by rw [wrap_i64 (by omega) (by omega)]; rfl
      have e4 : IntKind.i64.wrap ((pos : Int) + ((tl[j]).2.length : Int)) = ((pos + (tl[j]).2.length : Nat) : Int) := by rw [wrap_i64 (by omega) (by omega)]; rfl
      have tA' : curA.take pos = cur.take pos := by simpa [bv] using tA
      obtain rfl : vA = vB := Option.some.inj (a1.symm.trans b1)
      refine ⟨d, [.slice none 0 0, .slice (some ⟨b, 0, none⟩) N N, .int .i64 ((pos + (tl[j]).2.length : Nat) : Int), .slice (some (P.add 1)) (k - 1) (c - 1), .int .i64 ((k - 1 : Nat) : Int), .int .i64 ((j + 1 : Nat) : Int)], wB, by omega, ?_, j + 1, curB, by rw [hsum, List.length_append, ← Nat.add_assoc, ← hpos], by omega, yB, by omega, ?_⟩
      · obtain ⟨L, hL⟩ : ∃ a, a = (tl[j]).2.length := ⟨_, rfl⟩
        rw [← hL] at hcell b2 e4 ⊢
        have a2 : erun Tryd.prog (Builtin.copy_ #[44, 44] 3 #[vA, .slice none 0 0]) w' = some (.int .i64 0, wA) := a2
        obtain ⟨K1, hK1⟩ : ∃ q : Int, q = ((k - 1 : Nat) : Int) := ⟨_, rfl⟩
        rw [← hK1] at hlt ⊢
        simp [f36.l1, hlt, ix, hcell, a1, a2, e1, b1, b2, e3, e4]
      · have e : p0.2.length + ((tl.take (j + 1)).flatMap (·.2)).length = pos + (tl[j]).2.length := by omega
        rw [e, tB, tA', ht, hsum]
        simp [bv])
    tl.length _ w2 ⟨0, cur0, rfl, by omega, x2, by rw [c2]; simpa using hcs, by simpa using t2⟩
  obtain ⟨r, h1, w3, cur, rfl, x3, hcl, ht⟩ := key
  have h1 : iter (f36.l1 C) [.slice none 0 0, .slice (some ⟨b, 0, none⟩) N N, .int .i64 (p0.2.length : Nat), .slice (some (P.add 1)) (k - 1) (c - 1), .int .i64 ((k - 1 : Nat) : Int), .int .i64 0] w2 = some (.exit 2 [.slice (some ⟨b, 0, none⟩) N N] w3) := by simpa using h1
  have hk0 : ¬ k = 0 := by omega
  have hk1 : ¬ (k : Int) = 1 := by omega
  have q2 : erun Tryd.prog (Builtin.copy_ #[44, 44] 3 #[.slice (some ⟨b, 0, none⟩) N N, .slice A0 p0.2.length d0]) w1 = some (.int .i64 (p0.2.length : Nat), w2) := q2
  refine ⟨b, w3, f36.run rfl ?_, ?_, grown_of x3⟩
  · obtain ⟨L, hL⟩ : ∃ a, a = p0.2.length := ⟨_, rfl⟩
    rw [← hL] at hc0 q2 h1
    obtain ⟨K1, hK1⟩ : ∃ q : Nat, q = k - 1 := ⟨_, rfl⟩
    rw [← hK1] at sl1 h1
    simp [f36, hk0, hk1, l0, m1, hsl, ix0, hc0, q2, sl1, h1]
  · have hfl : (p0 :: tl).flatMap (·.2) = p0.2 ++ tl.flatMap (·.2) := by simp
    intro j v hj
    rw [addL, Nat.zero_add]
    refine x3.cell j ?_
    rw [hfl, ← ht, List.getElem?_take] at hj
    split at hj
    · exact hj
    · cases hj
end Go.Sh.YtodkllcibbidoaaDoor

namespace Go.Sh.YtodkllcibbidoaaDoor
open Go Go.Proofs Go.RowKit Go.Lib
set_option linter.unusedVariables false
set_option linter.unusedSimpArgs false
set_option maxRecDepth 100000
/-- a literal's bytes, as they lie -/
def litA {base : Nat} (b : Nat) (cs : List Value) : Asn base := ⟨fun S w => (∃ fz, w.heap[b]? = some (.cells cs.toArray 5 fz)) ∧ base ≤ b ∧ S = fun k => k = b,
  fun ⟨⟨fz, h⟩, hb, h3⟩ hg hs => ⟨⟨fz, by rw [hg.block b ((Array.getElem?_eq_some_iff.mp h).1) (hs _ (by rw [h3]))]; exact h⟩, hb, h3⟩,
  fun ⟨⟨fz, h⟩, hb, h3⟩ k hk => by rw [h3] at hk; subst hk; exact ⟨hb, (Array.getElem?_eq_some_iff.mp h).1⟩⟩
theorem rd_lit {W w : World} {R : Asn W.heap.size} {b : Nat} {cs : List Value} (s : Sat W (litA b cs * R) w) : Rd w (some ⟨b, 0, none⟩) cs := by
  obtain ⟨_, S, ⟨⟨fz, h⟩, _⟩⟩ := s.left
  intro j v hj
  rw [addL, Nat.zero_add]
  simp [World.cell?, h, hj]
theorem lit4 (a b c d : Int) (w : World) : erun Tryd.prog (Instr.buildSlice 44 4 #[(0, .int .u8 a), (1, .int .u8 b), (2, .int .u8 c), (3, .int .u8 d)]) w = some (.slice (some ⟨w.heap.size, 0, none⟩) 4 4, w.alloc (.cells #[.int .u8 a, .int .u8 b, .int .u8 c, .int .u8 d] 5)) := id (by kernel_rfl)
theorem bs86_1 (A : Option Addr) (n c : Nat) (w : World) : erun Tryd.prog (Instr.buildSlice 86 1 #[(0, .slice A n c)]) w = some (.slice (some ⟨w.heap.size, 0, none⟩) 1 1, w.alloc (.cells #[.slice A n c] 44)) := id (by kernel_rfl)
theorem bs86_2 (A B : Option Addr) (n c m d : Nat) (w : World) : erun Tryd.prog (Instr.buildSlice 86 2 #[(0, .slice A n c), (1, .slice B m d)]) w = some (.slice (some ⟨w.heap.size, 0, none⟩) 2 2, w.alloc (.cells #[.slice A n c, .slice B m d] 44)) := id (by kernel_rfl)
theorem bs86_3 (A B D : Option Addr) (n c m d k e : Nat) (w : World) : erun Tryd.prog (Instr.buildSlice 86 3 #[(0, .slice A n c), (1, .slice B m d), (2, .slice D k e)]) w = some (.slice (some ⟨w.heap.size, 0, none⟩) 3 3, w.alloc (.cells #[.slice A n c, .slice B m d, .slice D k e] 44)) := id (by kernel_rfl)
theorem bs86_4 (A B D F : Option Addr) (n c m d k e l f : Nat) (w : World) : erun Tryd.prog (Instr.buildSlice 86 4 #[(0, .slice A n c), (1, .slice B m d), (2, .slice D k e), (3, .slice F l f)]) w = some (.slice (some ⟨w.heap.size, 0, none⟩) 4 4, w.alloc (.cells #[.slice A n c, .slice B m d, .slice D k e, .slice F l f] 44)) := id (by kernel_rfl)
theorem bv_app (l k : List UInt8) : bv l ++ bv k = bv (l ++ k) := by simp [bv]
/-- bytes with their sum behind them -/
noncomputable def sm (l : List UInt8) : List UInt8 := l ++ be4 (csum l).toNat
theorem sm_len (l : List UInt8) : (sm l).length = l.length + 4 := by simp [sm, be4_len]
section
variable {W : World} {X : Asn W.heap.size}
theorem part_row {w : World} {v : Value} {n : Nat} {l : List UInt8} (x : Sat W (rowA 5 1 v n (bv l) * X) w) (hl : l.length = n) : Part w v l := by
  have hrow := x.row
  obtain ⟨A, c, rfl, hc, _⟩ := own_form hrow
  refine ⟨A, c, by rw [hl], Rd.own hrow, ?_⟩
  rintro rfl
  rcases hrow.2 with ⟨h, _⟩ | ⟨g, cap, cur, hv, _⟩
  · simp at h; exact h.2
  · cases hv
theorem part_blk {w : World} {b n : Nat} {l : List UInt8} (x : Sat W (blkA b 5 (bv l) * X) w) (hl : l.length = n) : Part w (.slice (some ⟨b, 0, none⟩) n n) l :=
  ⟨some ⟨b, 0, none⟩, n, by rw [hl], x.blk.rd, fun h => by cases h⟩
/-- bytes put behind a slice that has no room -/
theorem app_grow {w : World} (x : Sat W X w) {a : Addr} {n : Nat} {l k : List UInt8} {v : Value} (hl : l.length = n) (hr : Rd w (some a) (bv l)) (hk : Part w v k) (hk0 : 0 < k.length) (hb : n + k.length ≤ 1000000000) :
    ∃ v' w', erun Tryd.prog (Builtin.append_ #[44, 44] 44 #[.slice (some a) n n, v]) w = some (v', w') ∧ Sat W (rowA 5 1 v' (n + k.length) (bv (l ++ k)) * X) w' := by
  obtain ⟨A, c, rfl, hA, hn⟩ := hk
  cases A with
  | none =>
    have h0 : bv k = [] := hA
    have h1 : k = [] := by simpa [bv] using h0
    rw [h1] at hk0
    simp at hk0
  | some p =>
    obtain ⟨v', w', k1, k2, k3⟩ := run_append_arg_grows (P := Tryd.prog) w 44 44 5 (inf 5) (.int .u8 0) 1 1 Tryd.underlying44 inf5 zero5 size5 bytes5 rfl (by decide) a n n (bv l) (by rw [bv_length]; omega) hr p k.length c (bv k) (by rw [bv_length]; omega) hA (by omega) (by simp [maxLen]; omega) (by omega)
    rw [bv_app] at k2
    exact ⟨v', w', erun_of_run k1, x.newRow k3 k2⟩
/-- bytes put behind a row -/
theorem app_own {w : World} {v0 : Value} {n : Nat} {l k : List UInt8} {v : Value} (x : Sat W (rowA 5 1 v0 n (bv l) * X) w) (hk : Part w v k) (hb : n + k.length ≤ 1000000000) :
    ∃ v' w', erun Tryd.prog (Builtin.append_ #[44, 44] 44 #[v0, v]) w = some (v', w') ∧ Sat W (rowA 5 1 v' (n + k.length) (bv (l ++ k)) * X) w' := by
  obtain ⟨A, c, rfl, hA, hn⟩ := hk
  obtain ⟨v', w', k1, k2, k3, k4⟩ := e_append2 (P := Tryd.prog) (ty := 44) Tryd.underlying44 inf5 zero5 size5 bytes5 rfl (by decide) x.row (m := k.length) (c := c) (news := bv k) (by rw [bv_length]; omega) hA hn (bv_one _) (by simp [maxLen]; omega) (by omega) x.size
  rw [bv_app] at k2
  exact ⟨v', w', k1, x.rowStep k3 k2 k4⟩
theorem sum_four {w : World} (x : Sat W X w) {A : Option Addr} {c n : Nat} {l : List UInt8} (hr : Rd w A (bv l)) (hl : l.length = n) (hn : n ≤ 1000000000) :
    ∃ s v w1 w2, C 37 #[.slice A n c] w = some (.int .u32 s, w1) ∧ prun Tryd.prog (convert 64 3 (.int .u32 s)) = some (.int .i64 s) ∧ C 28 #[.int .i64 s] w1 = some (v, w2) ∧ w.grownBy w1 none ∧ Sat W (rowA 5 1 v 4 (bv (be4 (csum l).toNat)) * X) w2 := by
  obtain ⟨w1, k1, g1, x1⟩ := sum_ok x (c := c) (fun w' g => hr.grown g) hl hn
  obtain ⟨h0, h1⟩ := csum_range l
  obtain ⟨v, w2, k2, x2⟩ := four_ok x1 (n := (csum l).toNat) (by omega)
  rw [Int.toNat_of_nonneg h0] at k2
  refine ⟨csum l, v, w1, w2, k1, ?_, k2, g1, x2⟩
  have : ∀ z : Int, prun Tryd.prog (convert 64 3 (.int .u32 z)) = some (.int .i64 (IntKind.i64.wrap z)) := fun z => id (by kernel_rfl)
  rw [this, wrap_i64 (by omega) (by omega)]
theorem summed_ok {w : World} (x : Sat W X w) {P : Addr} {k c : Nat} {ps : List (Value × List UInt8)} (hk : ps.length = k) (h2 : 2 ≤ k) (hc : k ≤ c) (hkk : k ≤ 1000000) (hP : Rd w (some P) (ps.map (·.1))) (hp : ∀ p ∈ ps, Part w p.1 p.2) (htot : (ps.flatMap (·.2)).length ≤ 999999000) :
    ∃ v w', C 27 #[.slice (some P) k c] w = some (v, w') ∧ Sat W (rowA 5 1 v ((ps.flatMap (·.2)).length + 4) (bv (sm (ps.flatMap (·.2)))) * X) w' := by
  obtain ⟨b, w1, k1, r1, g1⟩ := join_ok hk h2 hc hkk hP hp (by omega)
  obtain ⟨T, hT⟩ : ∃ T, T = ps.flatMap (·.2) := ⟨_, rfl⟩
  rw [← hT] at k1 r1 htot ⊢
  obtain ⟨s, v4, w2, w3, k2, cv, k3, g2, x3⟩ := sum_four (x.grown g1) (c := T.length) r1 rfl (by omega)
  have g3 : w1.grownBy w3 none := by
    obtain ⟨s', v', u1, u2, j1, _, j3, j4, j5⟩ := sum_four (W := w1) (X := emp) (w := w1) ⟨Grew.refl _ _, fun _ => False, rfl⟩ (c := T.length) r1 rfl (by omega)
    rw [k2] at j1
    cases j1
    rw [k3] at j3
    cases j3
    exact grown_of j5
  obtain ⟨v5, w4, k4, x4⟩ := app_grow x3 (n := T.length) rfl (r1.grown g3) (part_row x3 rfl) (by rw [be4_len]; omega) (by rw [be4_len]; omega)
  rw [be4_len] at x4
  have x5 := x4.eq (by ac_rfl : _ = rowA 5 1 v4 4 (bv (be4 (csum T).toNat)) * (rowA 5 1 v5 (T.length + 4) (bv (T ++ be4 (csum T).toNat)) * X))
  refine ⟨v5, w4, f27.run rfl ?_, x5.right⟩
  obtain ⟨N, hN⟩ : ∃ N, N = T.length := ⟨_, rfl⟩
  rw [← hN] at k1 k2 k4
  simp [f27, k1, k2, cv, k3, k4]
end
end Go.Sh.YtodkllcibbidoaaDoor

namespace Go.Sh.YtodkllcibbidoaaDoor
open Go Go.Proofs Go.RowKit Go.Lib
set_option linter.unusedVariables false
set_option linter.unusedSimpArgs false
set_option maxRecDepth 100000
/-- a literal is told to be bytes: its block is marked -/
theorem cvGen {w : World} {b : Nat} {cs : List Value} (h : Blk w b 5 cs) (n c : Nat) : erun Tryd.prog (convert 44 44 (.slice (some ⟨b, 0, none⟩) n c)) w = some (.slice (some ⟨b, 0, none⟩) n c, w.freeze ⟨b, cs.length, none⟩ 1) := by
  have hb : w.heap[b]? = some (.cells cs.toArray 5) := h
  have hsh : w.shape? b = some (5, cs.length) := by
    unfold World.shape?
    rw [hb]
    simp
  refine erun_of_run ?_
  simp [convert, run_underlying Tryd.underlying44, run_underlying Tryd.underlying5, markStringish, hsh]
theorem freeze_step {W w : World} {R : Asn W.heap.size} {b : Nat} {cs : List Value} (s : Sat W (blkA b 5 cs * R) w) : Sat W (litA b cs * R) (w.freeze ⟨b, cs.length, none⟩ 1) := by
  have hB := s.blk
  obtain ⟨g, S, A, B, d, e', ⟨p, hb, hA⟩, q⟩ := s
  subst hA
  have hlt := hB.lt
  have hh : w.heap[b]? = some (.cells cs.toArray 5) := hB
  have hw : w.freeze ⟨b, cs.length, none⟩ 1 = { w with heap := (w.freeze ⟨b, cs.length, none⟩ 1).heap } := by
    unfold World.freeze
    rw [if_neg (by decide)]
  have hheap : ∀ k, (w.freeze ⟨b, cs.length, none⟩ 1).heap[k]? = if k = b then some (.cells cs.toArray 5 (cs.length, cs.length + 1)) else w.heap[k]? := by
    intro k
    unfold World.freeze
    rw [if_neg (by decide)]
    simp only [Array.getElem?_modify]
    by_cases hk : b = k
    · subst hk
      rw [if_pos rfl, if_pos rfl, hh]
      rfl
    · rw [if_neg hk, if_neg (fun h => hk h.symm)]
  have hg : Grew (fun k => k = b) w (w.freeze ⟨b, cs.length, none⟩ 1) := by
    refine ⟨by rw [hw], by rw [hw], by rw [hw], ?_, fun k hk hne => by rw [hheap, if_neg hne]⟩
    unfold World.freeze
    rw [if_neg (by decide)]
    simp
  exact ⟨g.trans hg fun k hk => .inr (hk ▸ hb), fun k => k = b ∨ B k, fun k => k = b, B, d, rfl, ⟨⟨_, by rw [hheap, if_pos rfl]⟩, hb, rfl⟩, R.frame q hg fun k hB hk => d k hk hB⟩
section
variable {W : World} {X : Asn W.heap.size}
theorem part_lit {w : World} {b n : Nat} {l : List UInt8} (x : Sat W (litA b (bv l) * X) w) (hl : l.length = n) : Part w (.slice (some ⟨b, 0, none⟩) n n) l :=
  ⟨some ⟨b, 0, none⟩, n, by rw [hl], rd_lit x, fun h => by cases h⟩
/-- a literal of four bytes, made bytes -/
theorem lit_ok {w : World} (x : Sat W X w) (a b c d : UInt8) : ∃ k w1 w2, erun Tryd.prog (Instr.buildSlice 44 4 #[(0, .int .u8 a.toNat), (1, .int .u8 b.toNat), (2, .int .u8 c.toNat), (3, .int .u8 d.toNat)]) w = some (.slice (some ⟨k, 0, none⟩) 4 4, w1) ∧
    erun Tryd.prog (convert 44 44 (.slice (some ⟨k, 0, none⟩) 4 4)) w1 = some (.slice (some ⟨k, 0, none⟩) 4 4, w2) ∧ Sat W (litA k (bv [a, b, c, d]) * X) w2 := by
  have x1 := x.newBlk 5 (bv [a, b, c, d])
  have k1 := lit4 a.toNat b.toNat c.toNat d.toNat w
  exact ⟨_, _, _, k1, cvGen x1.blk 4 4, freeze_step x1⟩
theorem summed1_ok {w : World} (x : Sat W X w) {P : Addr} {v0 : Value} {l : List UInt8} (hP : Rd w (some P) [v0]) (hp : Part w v0 l) (hl0 : 0 < l.length) (htot : l.length ≤ 999999000) :
    ∃ v w', C 27 #[.slice (some P) 1 1] w = some (v, w') ∧ Sat W (rowA 5 1 v (l.length + 4) (bv (sm l)) * X) w' := by
  obtain ⟨A, d, rfl, hr, hn⟩ := hp
  have c0 : w.cell? P = some (.slice A l.length d) := by
    have := hP 0 _ rfl
    simpa [addL] using this
  have ix0 : prun Tryd.prog (Instr.indexAt 86 (.slice (some P) 1 1) (.int .i64 0)) = some (.pointer (some P)) := by
    have := ix86 P 1 1 .i64 0 (by omega) (by omega)
    simpa using this
  obtain ⟨v1, w1, k1, x1⟩ := app_own (n := 0) (l := []) (x.nilRow 5 1 : Sat W (rowA 5 1 (.slice none 0 0) 0 (bv []) * X) w) (k := l) (v := .slice A l.length d) ⟨A, d, rfl, hr, hn⟩ (by omega)
  have x1 : Sat W (rowA 5 1 v1 l.length (bv l) * X) w1 := by simpa using x1
  have h36 : C 36 #[.slice (some P) 1 1, .slice none 0 0] w = some (v1, w1) := by
    refine f36.run rfl ?_
    obtain ⟨L, hL⟩ : ∃ a, a = l.length := ⟨_, rfl⟩
    rw [← hL] at c0 k1
    simp [f36, ix0, c0, k1]
  obtain ⟨A1, c1, rfl, hc1, _⟩ := own_form x1.row
  obtain ⟨s, v4, w2, w3, k2, cv, k3, g2, x3⟩ := sum_four x1 (c := c1) (n := l.length) (Rd.own x1.row) rfl (by omega)
  obtain ⟨v5, w4, k4, x4⟩ := app_own x3.swap (part_row x3 rfl) (by rw [be4_len]; omega)
  rw [be4_len] at x4
  refine ⟨v5, w4, f27.run rfl ?_, x4.drop2⟩
  obtain ⟨L, hL⟩ : ∃ a, a = l.length := ⟨_, rfl⟩
  rw [← hL] at h36 k2 k4
  simp [f27, h36, k2, cv, k3, k4]
/-- what stands ahead of a record -/
noncomputable def linkB (i n : Nat) : List UInt8 := sm ([76, 73, 78, 75] ++ (be4 i ++ be4 n))
theorem link_ok {w : World} (x : Sat W X w) {i n : Nat} (hi : i < 4294967296) (hn : n < 4294967296) :
    ∃ v w', C 31 #[.int .i64 i, .int .i64 n] w = some (v, w') ∧ Sat W (rowA 5 1 v 16 (bv (linkB i n)) * X) w' := by
  obtain ⟨k, w1, w2, k1, k2, x2⟩ := lit_ok x 76 73 78 75
  obtain ⟨v3, w3, k3, x3⟩ := four_ok x2 hi
  obtain ⟨v4, w4, k4, x4⟩ := four_ok x3 hn
  have p1 : Part w4 (.slice (some ⟨k, 0, none⟩) 4 4) [76, 73, 78, 75] := part_lit (x4.eq (by ac_rfl : _ = litA k (bv [76, 73, 78, 75]) * (rowA 5 1 v4 4 (bv (be4 n)) * (rowA 5 1 v3 4 (bv (be4 i)) * X)))) rfl
  have p3 : Part w4 v3 (be4 i) := part_row x4.swap rfl
  have p4 : Part w4 v4 (be4 n) := part_row x4 rfl
  obtain ⟨A3, c3, e3, _, _⟩ := p3
  obtain ⟨A4, c4, e4, _, _⟩ := p4
  rw [be4_len] at e3 e4
  subst e3
  subst e4
  have x5 := x4.newBlk 44 [.slice (some ⟨k, 0, none⟩) 4 4, .slice A3 4 c3, .slice A4 4 c4]
  have k5 := bs86_3 (some ⟨k, 0, none⟩) A3 A4 4 4 4 c3 4 c4 w4
  obtain ⟨w5, hw5⟩ : ∃ w5, w5 = w4.alloc (.cells #[.slice (some ⟨k, 0, none⟩) 4 4, .slice A3 4 c3, .slice A4 4 c4] 44) := ⟨_, rfl⟩
  rw [← hw5] at k5
  have x5 : Sat W (blkA w4.heap.size 44 [.slice (some ⟨k, 0, none⟩) 4 4, .slice A3 4 c3, .slice A4 4 c4] * (rowA 5 1 (.slice A4 4 c4) 4 (bv (be4 n)) * (rowA 5 1 (.slice A3 4 c3) 4 (bv (be4 i)) * (litA k (bv [76, 73, 78, 75]) * X)))) w5 := hw5 ▸ x5
  obtain ⟨b, hb⟩ : ∃ b, b = w4.heap.size := ⟨_, rfl⟩
  rw [← hb] at k5 x5
  have g5 : w4.grownBy w5 none := hw5 ▸ World.grownBy_alloc w4 _ none
  obtain ⟨v6, w6, k6, x6⟩ := summed_ok x5 (P := ⟨b, 0, none⟩) (k := 3) (c := 3) (ps := [(.slice (some ⟨k, 0, none⟩) 4 4, [76, 73, 78, 75]), (.slice A3 4 c3, be4 i), (.slice A4 4 c4, be4 n)]) rfl (by omega) (by omega) (by omega) x5.blk.rd (fun p hp => by
    simp only [List.mem_cons, List.not_mem_nil, or_false] at hp
    rcases hp with rfl | rfl | rfl
    · exact p1.grown g5
    · exact (part_row x4.swap rfl : Part w4 (.slice A3 4 c3) (be4 i)).grown g5
    · exact (part_row x4 rfl : Part w4 (.slice A4 4 c4) (be4 n)).grown g5) (by simp [be4_len])
  have hfl : ([(.slice (some ⟨k, 0, none⟩) 4 4, [76, 73, 78, 75]), (.slice A3 4 c3, be4 i), (.slice A4 4 c4, be4 n)] : List (Value × List UInt8)).flatMap (·.2) = [76, 73, 78, 75] ++ (be4 i ++ be4 n) := by simp
  rw [hfl] at x6
  have x6 : Sat W (rowA 5 1 v6 16 (bv (linkB i n)) * (blkA b 44 [.slice (some ⟨k, 0, none⟩) 4 4, .slice A3 4 c3, .slice A4 4 c4] * (rowA 5 1 (.slice A4 4 c4) 4 (bv (be4 n)) * (rowA 5 1 (.slice A3 4 c3) 4 (bv (be4 i)) * (litA k (bv [76, 73, 78, 75]) * X))))) w6 := x6
  refine ⟨v6, w6, f31.run rfl ?_, (x6.eq (by ac_rfl : _ = (blkA b 44 [.slice (some ⟨k, 0, none⟩) 4 4, .slice A3 4 c3, .slice A4 4 c4] * (rowA 5 1 (.slice A4 4 c4) 4 (bv (be4 n)) * (rowA 5 1 (.slice A3 4 c3) 4 (bv (be4 i)) * litA k (bv [76, 73, 78, 75])))) * (rowA 5 1 v6 16 (bv (linkB i n)) * X))).right⟩
  have k1 : erun Tryd.prog (Instr.buildSlice 44 4 #[(0, .int .u8 76), (1, .int .u8 73), (2, .int .u8 78), (3, .int .u8 75)]) w = some (.slice (some ⟨k, 0, none⟩) 4 4, w1) := k1
  simp [f31, k1, k2, k3, k4, k5, k6]
end
end Go.Sh.YtodkllcibbidoaaDoor

namespace Go.Sh.YtodkllcibbidoaaDoor
open Go Go.Proofs Go.RowKit Go.Lib
set_option linter.unusedVariables false
set_option linter.unusedSimpArgs false
set_option maxRecDepth 100000
/-- index and foot of no record -/
noncomputable def endB (at_ : Nat) : List UInt8 := sm ([73, 78, 68, 88] ++ be4 0) ++ sm ([70, 79, 79, 84] ++ be4 at_)
section
variable {W : World} {X : Asn W.heap.size}
theorem end_ok {w : World} (x : Sat W X w) {at_ : Nat} (hat : at_ < 4294967296) :
    ∃ v w', C 21 #[.slice none 0 0, .int .i64 at_] w = some (v, w') ∧ Sat W (rowA 5 1 v 24 (bv (endB at_)) * X) w' := by
  obtain ⟨k, w1, w2, k1, k2, x2⟩ := lit_ok x 73 78 68 88
  have k1 : erun Tryd.prog (Instr.buildSlice 44 4 #[(0, .int .u8 73), (1, .int .u8 78), (2, .int .u8 68), (3, .int .u8 88)]) w = some (.slice (some ⟨k, 0, none⟩) 4 4, w1) := k1
  obtain ⟨v3, w3, k3, x3⟩ := four_ok x2 (n := 0) (by omega)
  have k3 : C 28 #[.int .i64 0] w2 = some (v3, w3) := k3
  have x3' : Sat W (litA k (bv [73, 78, 68, 88]) * (rowA 5 1 v3 4 (bv (be4 0)) * X)) w3 := x3.eq (by ac_rfl)
  obtain ⟨v4, w4, k4, x4⟩ := app_grow x3 (a := ⟨k, 0, none⟩) (n := 4) (l := [73, 78, 68, 88]) rfl (rd_lit x3') (part_row x3 rfl) (by rw [be4_len]; omega) (by rw [be4_len]; omega)
  rw [be4_len] at x4
  have x4 : Sat W (rowA 5 1 v4 8 (bv ([73, 78, 68, 88] ++ be4 0)) * X) w4 := (x4.eq (by ac_rfl : _ = (rowA 5 1 v3 4 (bv (be4 0)) * litA k (bv [73, 78, 68, 88])) * (rowA 5 1 v4 (4 + 4) (bv ([73, 78, 68, 88] ++ be4 0)) * X))).right
  have it : ∀ w, iter (f21.l0 C) [.int .i64 at_, v4, .slice none 0 0, .int .i64 0, .int .i64 0] w = some (.exit 0 [.int .i64 at_, v4] w) := fun w => iter_of_rounds (.exit (by simp [f21.l0]))
  -- the index's sum
  have p4 : Part w4 v4 ([73, 78, 68, 88] ++ be4 0) := part_row x4 rfl
  obtain ⟨A4, c4, e4, _, _⟩ := p4
  have e4 : v4 = .slice A4 8 c4 := e4
  subst e4
  have x5 := x4.newBlk 44 [.slice A4 8 c4]
  have k5 := bs86_1 A4 8 c4 w4
  have g5 : w4.grownBy (w4.alloc (.cells #[.slice A4 8 c4] 44)) none := World.grownBy_alloc w4 _ none
  obtain ⟨w5, hw5⟩ : ∃ w5, w5 = w4.alloc (.cells #[.slice A4 8 c4] 44) := ⟨_, rfl⟩
  rw [← hw5] at k5 g5
  obtain ⟨b5, hb5⟩ : ∃ b, b = w4.heap.size := ⟨_, rfl⟩
  rw [← hb5] at k5
  have x5 : Sat W (blkA b5 44 [.slice A4 8 c4] * (rowA 5 1 (.slice A4 8 c4) 8 (bv ([73, 78, 68, 88] ++ be4 0)) * X)) w5 := by rw [hw5, hb5]; exact x5
  obtain ⟨v6, w6, k6, x6⟩ := summed1_ok x5 (P := ⟨b5, 0, none⟩) (v0 := .slice A4 8 c4) (l := [73, 78, 68, 88] ++ be4 0) x5.blk.rd ((part_row x4 rfl : Part w4 (.slice A4 8 c4) ([73, 78, 68, 88] ++ be4 0)).grown g5) (by simp) (by simp [be4_len])
  have x6 : Sat W (rowA 5 1 v6 12 (bv (sm ([73, 78, 68, 88] ++ be4 0))) * X) w6 := (x6.eq (by ac_rfl : _ = (blkA b5 44 [.slice A4 8 c4] * rowA 5 1 (.slice A4 8 c4) 8 (bv ([73, 78, 68, 88] ++ be4 0))) * (rowA 5 1 v6 (([73, 78, 68, 88] ++ be4 0).length + 4) (bv (sm ([73, 78, 68, 88] ++ be4 0))) * X))).right
  -- the foot
  obtain ⟨k', w7, w8, k7, k8, x8⟩ := lit_ok x6 70 79 79 84
  have k7 : erun Tryd.prog (Instr.buildSlice 44 4 #[(0, .int .u8 70), (1, .int .u8 79), (2, .int .u8 79), (3, .int .u8 84)]) w6 = some (.slice (some ⟨k', 0, none⟩) 4 4, w7) := k7
  obtain ⟨v9, w9, k9, x9⟩ := four_ok x8 hat
  have p9 : Part w9 v9 (be4 at_) := part_row x9 rfl
  obtain ⟨A9, c9, e9, _, _⟩ := p9
  rw [be4_len] at e9
  subst e9
  have x10 := x9.newBlk 44 [.slice (some ⟨k', 0, none⟩) 4 4, .slice A9 4 c9]
  have k10 := bs86_2 (some ⟨k', 0, none⟩) A9 4 4 4 c9 w9
  have g10 : w9.grownBy (w9.alloc (.cells #[.slice (some ⟨k', 0, none⟩) 4 4, .slice A9 4 c9] 44)) none := World.grownBy_alloc w9 _ none
  obtain ⟨w10, hw10⟩ : ∃ w5, w5 = w9.alloc (.cells #[.slice (some ⟨k', 0, none⟩) 4 4, .slice A9 4 c9] 44) := ⟨_, rfl⟩
  rw [← hw10] at k10 g10
  obtain ⟨b10, hb10⟩ : ∃ b, b = w9.heap.size := ⟨_, rfl⟩
  rw [← hb10] at k10
  have x10 : Sat W (blkA b10 44 [.slice (some ⟨k', 0, none⟩) 4 4, .slice A9 4 c9] * (rowA 5 1 (.slice A9 4 c9) 4 (bv (be4 at_)) * (litA k' (bv [70, 79, 79, 84]) * (rowA 5 1 v6 12 (bv (sm ([73, 78, 68, 88] ++ be4 0))) * X)))) w10 := by rw [hw10, hb10]; exact x10
  have pl : Part w9 (.slice (some ⟨k', 0, none⟩) 4 4) [70, 79, 79, 84] := part_lit x9.swap rfl
  obtain ⟨v11, w11, k11, x11⟩ := summed_ok x10 (P := ⟨b10, 0, none⟩) (k := 2) (c := 2) (ps := [(.slice (some ⟨k', 0, none⟩) 4 4, [70, 79, 79, 84]), (.slice A9 4 c9, be4 at_)]) rfl (by omega) (by omega) (by omega) x10.blk.rd (fun p hp => by
    simp only [List.mem_cons, List.not_mem_nil, or_false] at hp
    rcases hp with rfl | rfl
    · exact pl.grown g10
    · exact (part_row x9 rfl : Part w9 (.slice A9 4 c9) (be4 at_)).grown g10) (by simp [be4_len])
  have hfl : ([(.slice (some ⟨k', 0, none⟩) 4 4, [70, 79, 79, 84]), (.slice A9 4 c9, be4 at_)] : List (Value × List UInt8)).flatMap (·.2) = [70, 79, 79, 84] ++ be4 at_ := by simp
  rw [hfl] at x11
  have x11 : Sat W (rowA 5 1 v6 12 (bv (sm ([73, 78, 68, 88] ++ be4 0))) * (rowA 5 1 v11 12 (bv (sm ([70, 79, 79, 84] ++ be4 at_))) * X)) w11 := (x11.eq (by ac_rfl : _ = (blkA b10 44 [.slice (some ⟨k', 0, none⟩) 4 4, .slice A9 4 c9] * (rowA 5 1 (.slice A9 4 c9) 4 (bv (be4 at_)) * litA k' (bv [70, 79, 79, 84]))) * (rowA 5 1 v6 12 (bv (sm ([73, 78, 68, 88] ++ be4 0))) * (rowA 5 1 v11 (([70, 79, 79, 84] ++ be4 at_).length + 4) (bv (sm ([70, 79, 79, 84] ++ be4 at_))) * X)))).right
  obtain ⟨v12, w12, k12, x12⟩ := app_own x11 (k := sm ([70, 79, 79, 84] ++ be4 at_)) (part_row x11.swap (by rw [sm_len]; rfl)) (by rw [sm_len]; simp [be4_len])
  rw [sm_len] at x12
  have x12 : Sat W (rowA 5 1 v12 24 (bv (endB at_)) * X) w12 := Sat.drop2 (by exact x12)
  refine ⟨v12, w12, f21.run rfl ?_, x12⟩
  simp [f21, k1, k2, k3, k4, it, k5, k6, k7, k8, k9, k10, k11, k12]
end
end Go.Sh.YtodkllcibbidoaaDoor

namespace Go.Sh.YtodkllcibbidoaaDoor
open Go Go.Proofs Go.RowKit Go.Lib
set_option linter.unusedVariables false
set_option linter.unusedSimpArgs false
set_option maxRecDepth 100000
/-- a block that begins with some bytes -/
def preA {base : Nat} (b : Nat) (cs : List Value) : Asn base := ⟨fun S w => (∃ cur fz, w.heap[b]? = some (.cells cur 5 fz) ∧ ∀ (j : Nat) (v : Value), cs[j]? = some v → cur[j]? = some v) ∧ base ≤ b ∧ S = fun k => k = b,
  fun ⟨⟨cur, fz, h, h2⟩, hb, h3⟩ hg hs => ⟨⟨cur, fz, by rw [hg.block b ((Array.getElem?_eq_some_iff.mp h).1) (hs _ (by rw [h3]))]; exact h, h2⟩, hb, h3⟩,
  fun ⟨⟨cur, fz, h, h2⟩, hb, h3⟩ k hk => by rw [h3] at hk; subst hk; exact ⟨hb, (Array.getElem?_eq_some_iff.mp h).1⟩⟩
theorem rd_pre {W w : World} {R : Asn W.heap.size} {b : Nat} {cs : List Value} (s : Sat W (preA b cs * R) w) : Rd w (some ⟨b, 0, none⟩) cs := by
  obtain ⟨_, S, ⟨⟨cur, fz, h, h2⟩, _⟩⟩ := s.left
  intro j v hj
  rw [addL, Nat.zero_add]
  have := h2 j v hj
  simp [World.cell?, h, this]
def reelB : List UInt8 := [82, 69, 69, 76]
/-- a label's bytes -/
noncomputable def labelB (t : List UInt8) (rb : UInt8) (s : Nat) : List UInt8 := sm (reelB ++ ([1, rb, UInt8.ofNat t.length] ++ (t ++ be4 s)))
section
variable {W : World} {X : Asn W.heap.size}
theorem stA {w : World} (x : Sat W X w) : ∃ k w', erun Tryd.prog (Instr.buildSlice 44 4 #[(0, .int .u8 82), (1, .int .u8 69), (2, .int .u8 69), (3, .int .u8 76)]) w = some (.slice (some ⟨k, 0, none⟩) 4 4, w') ∧ Sat W (blkA k 5 (bv reelB) * X) w' :=
  ⟨_, _, lit4 82 69 69 76 w, x.newBlk 5 (bv reelB)⟩
theorem stB {w : World} {k : Nat} (x : Sat W (blkA k 5 (bv reelB) * X) w) : ∃ w', erun Tryd.prog (convert 44 44 (.slice (some ⟨k, 0, none⟩) 4 4)) w = some (.slice (some ⟨k, 0, none⟩) 4 4, w') ∧ Sat W (litA k (bv reelB) * X) w' :=
  ⟨_, cvGen x.blk 4 4, freeze_step x⟩
theorem lit3 (a b c : Int) (w : World) : erun Tryd.prog (Instr.buildSlice 44 3 #[(0, .int .u8 a), (1, .int .u8 b), (2, .int .u8 c)]) w = some (.slice (some ⟨w.heap.size, 0, none⟩) 3 3, w.alloc (.cells #[.int .u8 a, .int .u8 b, .int .u8 c] 5)) := id (by kernel_rfl)
theorem stL {w : World} (x : Sat W X w) (rb : UInt8) (n : Nat) (hn : n ≤ 100) : ∃ k w', erun Tryd.prog (Instr.buildSlice 44 3 #[(0, .int .u8 1), (1, .int .u8 rb.toNat), (2, .int .u8 n)]) w = some (.slice (some ⟨k, 0, none⟩) 3 3, w') ∧ Sat W (blkA k 5 (bv [1, rb, UInt8.ofNat n]) * X) w' := by
  have h := x.newBlk 5 (bv [1, rb, UInt8.ofNat n])
  have e : bv [1, rb, UInt8.ofNat n] = [.int .u8 1, .int .u8 rb.toNat, .int .u8 n] := by
    simp [bv, Nat.mod_eq_of_lt (show n < 256 by omega)]
  refine ⟨_, _, lit3 1 rb.toNat n w, ?_⟩
  rw [e] at h ⊢
  exact h
theorem stT {w : World} (x : Sat W X w) (t : List UInt8) : ∃ k c w', erun Tryd.prog (convert 9 44 (st t)) w = some (.slice (some ⟨k, 0, none⟩) t.length c, w') ∧ Sat W (preA k (bv t) * X) w' := by
  have h := Go.Lib.run_convert_string_bytes (P := Tryd.prog) w 9 44 5 ⟨t.toArray⟩ Tryd.underlying9 Tryd.underlying44 Tryd.underlying5
  rw [st_size] at h
  refine ⟨_, _, _, erun_of_run h, ?_⟩
  have ga : w.grownBy (bytesWorld w 5 ⟨t.toArray⟩) none := ⟨rfl, rfl, rfl, by rw [bytesWorld_size]; omega, fun k hk _ => bytesWorld_at_old w 5 _ k hk⟩
  obtain ⟨g, S, x⟩ := x
  refine ⟨g.step (grew_new ga), fun k => k = w.heap.size ∨ S k, fun k => k = w.heap.size, S, fun k hk hs => by have := (X.rng x k hs).2; omega, rfl, ⟨⟨_, _, bytesWorld_at_new w 5 ⟨t.toArray⟩, fun j v hj => ?_⟩, g.size, rfl⟩, X.frame x (grew_new (S := fun _ => False) ga) fun k _ h => h⟩
  have hjl : j < t.length := by
    have := (List.getElem?_eq_some_iff.mp hj).1
    rwa [bv_length] at this
  have hc := bytesWorld_cell w 5 ⟨t.toArray⟩ j (by rw [st_size]; exact hjl)
  have hv : v = .int .u8 (t[j]).toNat := by
    simp only [bv, List.getElem?_map, List.getElem?_eq_getElem hjl, Option.map_some, Option.some.injEq] at hj
    exact hj.symm
  have e : (.int .u8 ((ByteArray.mk t.toArray).data.toList.getD j 0).toNat : Value) = .int .u8 (t[j]).toNat := by
    simp [List.getD, hjl]
  rw [e, ← hv] at hc
  have hh := bytesWorld_at_new w 5 ⟨t.toArray⟩
  simpa [World.cell?, hh] using hc
theorem part_pre {w : World} {b c n : Nat} {l : List UInt8} (x : Sat W (preA b (bv l) * X) w) (hl : l.length = n) : Part w (.slice (some ⟨b, 0, none⟩) n c) l :=
  ⟨some ⟨b, 0, none⟩, c, by rw [hl], rd_pre x, fun h => by cases h⟩
/-- all five, summed -/
theorem label_sum {w : World} {kA kL kT cT : Nat} {AF : Option Addr} {cF : Nat} {t : List UInt8} {rb : UInt8} {s : Nat} (ht : t.length ≤ 100)
    (x : Sat W (litA kA (bv reelB) * (blkA kL 5 (bv [1, rb, UInt8.ofNat t.length]) * (preA kT (bv t) * (rowA 5 1 (.slice AF 4 cF) 4 (bv (be4 s)) * X)))) w) :
    ∃ k w1 v w2, erun Tryd.prog (Instr.buildSlice 86 4 #[(0, .slice (some ⟨kA, 0, none⟩) 4 4), (1, .slice (some ⟨kL, 0, none⟩) 3 3), (2, .slice (some ⟨kT, 0, none⟩) t.length cT), (3, .slice AF 4 cF)]) w = some (.slice (some ⟨k, 0, none⟩) 4 4, w1) ∧
      C 27 #[.slice (some ⟨k, 0, none⟩) 4 4] w1 = some (v, w2) ∧ Sat W (rowA 5 1 v (t.length + 15) (bv (labelB t rb s)) * X) w2 ∧ Sat W X w1 := by
  have p1 : Part w (.slice (some ⟨kA, 0, none⟩) 4 4) reelB := part_lit x rfl
  have p2 : Part w (.slice (some ⟨kL, 0, none⟩) 3 3) [1, rb, UInt8.ofNat t.length] := part_blk x.swap rfl
  have p3 : Part w (.slice (some ⟨kT, 0, none⟩) t.length cT) t := part_pre (x.eq (by ac_rfl : _ = preA kT (bv t) * (litA kA (bv reelB) * (blkA kL 5 (bv [1, rb, UInt8.ofNat t.length]) * (rowA 5 1 (.slice AF 4 cF) 4 (bv (be4 s)) * X))))) rfl
  have p4 : Part w (.slice AF 4 cF) (be4 s) := part_row (x.eq (by ac_rfl : _ = rowA 5 1 (.slice AF 4 cF) 4 (bv (be4 s)) * (litA kA (bv reelB) * (blkA kL 5 (bv [1, rb, UInt8.ofNat t.length]) * (preA kT (bv t) * X))))) rfl
  have x5 := x.newBlk 44 [.slice (some ⟨kA, 0, none⟩) 4 4, .slice (some ⟨kL, 0, none⟩) 3 3, .slice (some ⟨kT, 0, none⟩) t.length cT, .slice AF 4 cF]
  have k5 := bs86_4 (some ⟨kA, 0, none⟩) (some ⟨kL, 0, none⟩) (some ⟨kT, 0, none⟩) AF 4 4 3 3 t.length cT 4 cF w
  have g5 : w.grownBy (w.alloc (.cells #[.slice (some ⟨kA, 0, none⟩) 4 4, .slice (some ⟨kL, 0, none⟩) 3 3, .slice (some ⟨kT, 0, none⟩) t.length cT, .slice AF 4 cF] 44)) none := World.grownBy_alloc w _ none
  obtain ⟨w5, hw5⟩ : ∃ w5, w5 = w.alloc (.cells #[.slice (some ⟨kA, 0, none⟩) 4 4, .slice (some ⟨kL, 0, none⟩) 3 3, .slice (some ⟨kT, 0, none⟩) t.length cT, .slice AF 4 cF] 44) := ⟨_, rfl⟩
  rw [← hw5] at k5 g5
  obtain ⟨b, hb⟩ : ∃ b, b = w.heap.size := ⟨_, rfl⟩
  rw [← hb] at k5
  obtain ⟨R, hR⟩ : ∃ R : Asn W.heap.size, R = litA kA (bv reelB) * (blkA kL 5 (bv [1, rb, UInt8.ofNat t.length]) * (preA kT (bv t) * rowA 5 1 (.slice AF 4 cF) 4 (bv (be4 s)))) := ⟨_, rfl⟩
  have x5 : Sat W (blkA b 44 [.slice (some ⟨kA, 0, none⟩) 4 4, .slice (some ⟨kL, 0, none⟩) 3 3, .slice (some ⟨kT, 0, none⟩) t.length cT, .slice AF 4 cF] * (R * X)) w5 := by
    rw [hw5, hb, hR]
    exact x5.eq (by ac_rfl)
  obtain ⟨v, w6, k6, x6⟩ := summed_ok x5 (P := ⟨b, 0, none⟩) (k := 4) (c := 4) (ps := [(.slice (some ⟨kA, 0, none⟩) 4 4, reelB), (.slice (some ⟨kL, 0, none⟩) 3 3, [1, rb, UInt8.ofNat t.length]), (.slice (some ⟨kT, 0, none⟩) t.length cT, t), (.slice AF 4 cF, be4 s)]) rfl (by omega) (by omega) (by omega) x5.blk.rd (fun p hp => by
    simp only [List.mem_cons, List.not_mem_nil, or_false] at hp
    rcases hp with rfl | rfl | rfl | rfl
    · exact p1.grown g5
    · exact p2.grown g5
    · exact p3.grown g5
    · exact p4.grown g5) (by simp [be4_len, reelB]; omega)
  have hfl : ([(.slice (some ⟨kA, 0, none⟩) 4 4, reelB), (.slice (some ⟨kL, 0, none⟩) 3 3, [1, rb, UInt8.ofNat t.length]), (.slice (some ⟨kT, 0, none⟩) t.length cT, t), (.slice AF 4 cF, be4 s)] : List (Value × List UInt8)).flatMap (·.2) = reelB ++ ([1, rb, UInt8.ofNat t.length] ++ (t ++ be4 s)) := by simp
  rw [hfl] at x6
  have hln : (reelB ++ ([1, rb, UInt8.ofNat t.length] ++ (t ++ be4 s))).length + 4 = t.length + 15 := by simp [be4_len, reelB]
  rw [hln] at x6
  exact ⟨b, w5, v, w6, k5, k6, (x6.eq (by ac_rfl : _ = (blkA b 44 [.slice (some ⟨kA, 0, none⟩) 4 4, .slice (some ⟨kL, 0, none⟩) 3 3, .slice (some ⟨kT, 0, none⟩) t.length cT, .slice AF 4 cF] * R) * (rowA 5 1 v (t.length + 15) (bv (labelB t rb s)) * X))).right, x5.right.right⟩
end
end Go.Sh.YtodkllcibbidoaaDoor

