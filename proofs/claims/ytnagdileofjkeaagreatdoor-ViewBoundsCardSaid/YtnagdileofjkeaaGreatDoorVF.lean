/- The functions of the seat's program as plain ones over the layer 'Sh', written by a program of this session's own; no condition. -/
import Derived.Test.YtnagdileofjkeaaGreatDoorProg
import Derived.Test.YtnagdileofjkeaaGreatDoorShEq
import Derived.KernelRfl
namespace Go.Sh.YtnagdileofjkeaaGreatDoor
open Go Go.Proofs
set_option linter.unusedVariables false
set_option maxRecDepth 100000

/-- dailies/dailieslaw13.ViewBounds -/
def f3.ann : Ann := (.s .z (.s .z (.s .z (.s .z (.s .z (.s .z (.s .z (.s .z (.s .z (.s .z .z))))))))))
noncomputable def f3 (call : CallF) (limit0 : Value) (length1 : Value) (W0 : World) : Option (Value × World) :=
  ((call 4 #[] W0).bind fun r22 =>
  (call 5 #[limit0, length1] r22.2).bind fun r26 =>
  (prun Tryz.prog (Instr.extract r26.1 0)).bind fun v27 =>
  (prun Tryz.prog (Instr.extract r26.1 1)).bind fun v28 =>
  (call 6 #[limit0, length1] r26.2).bind fun r32 =>
  (prun Tryz.prog (Instr.extract r32.1 0)).bind fun v33 =>
  (prun Tryz.prog (Instr.extract r32.1 1)).bind fun v34 =>
  (call 7 #[Value.nilIface] r32.2).bind fun r36 =>
  (prun Tryz.prog (Instr.extract r36.1 0)).bind fun v37 =>
  (prun Tryz.prog (Instr.extract r36.1 1)).bind fun v38 =>
  (erun Tryz.prog (Instr.alloc 31 true (.tuple #[])) r36.2).bind fun r10 =>
  (erun Tryz.prog (Instr.storeAt 31 r10.1 v37) r10.2).bind fun r =>
  (call 8 #[Value.nilIface, limit0] r.2).bind fun r41 =>
  (prun Tryz.prog (Instr.extract r41.1 0)).bind fun v42 =>
  (prun Tryz.prog (Instr.extract r41.1 1)).bind fun v43 =>
  (prun Tryz.prog (Instr.extract r41.1 2)).bind fun v44 =>
  (erun Tryz.prog (Instr.alloc 36 true (.tuple #[])) r41.2).bind fun r12 =>
  (erun Tryz.prog (Instr.alloc 40 true (.tuple #[])) r12.2).bind fun r13 =>
  (erun Tryz.prog (Instr.storeAt 36 r12.1 v42) r13.2).bind fun r_1 =>
  (erun Tryz.prog (Instr.storeAt 40 r13.1 v43) r_1.2).bind fun r_2 =>
  (call 9 #[Value.nilIface, (Value.int IntKind.i64 0), limit0] r_2.2).bind fun r47 =>
  (prun Tryz.prog (Instr.extract r47.1 0)).bind fun v48 =>
  (prun Tryz.prog (Instr.extract r47.1 1)).bind fun v49 =>
  (prun Tryz.prog (Instr.extract r47.1 2)).bind fun v50 =>
  (erun Tryz.prog (Instr.alloc 40 true (.tuple #[])) r47.2).bind fun r16 =>
  (erun Tryz.prog (Instr.storeAt 40 r16.1 v49) r16.2).bind fun r_3 =>
  (prun Tryz.prog (Instr.build 48 #[(2, (Value.int IntKind.i64 1)), (3, (Value.int IntKind.i64 1))])).bind fun v52 =>
  (call 10 #[Value.nilIface, v52, limit0] r_3.2).bind fun r54 =>
  (prun Tryz.prog (Instr.extract r54.1 0)).bind fun v55 =>
  (prun Tryz.prog (Instr.extract r54.1 1)).bind fun v56 =>
  (prun Tryz.prog (Instr.extract r54.1 2)).bind fun v57 =>
  (erun Tryz.prog (Instr.alloc 36 true (.tuple #[])) r54.2).bind fun r18 =>
  (erun Tryz.prog (Instr.alloc 40 true (.tuple #[])) r18.2).bind fun r19 =>
  (erun Tryz.prog (Instr.storeAt 36 r18.1 v55) r19.2).bind fun r_4 =>
  (erun Tryz.prog (Instr.storeAt 40 r19.1 v56) r_4.2).bind fun r_5 =>
  (rrun Tryz.prog (Instr.loadAt 31 r10.1) r_5.2).bind fun v58 =>
  (prun Tryz.prog (Instr.build 31 #[])).bind fun v59 =>
  (rrun Tryz.prog (do eqGuard .eql 31 (Operand.tmp 58) (Operand.tmp 59) v58 v59; binOp .eql 31 v58 v59) r_5.2).bind fun v60 =>
  (asB v60).bind fun b61 =>
  (if b61 = true then (prun Tryz.prog (Instr.fieldAt 36 r12.1 1)).bind fun v62 =>
    (rrun Tryz.prog (Instr.loadAt 34 v62) r_5.2).bind fun v63 =>
    (prun Tryz.prog (Builtin.len_ #[34] 3 #[v63])).bind fun v64 =>
    (bin .eql v64 (Value.int IntKind.i64 0)).bind fun v65 =>
    some (v65, r_5.2)
   else some ((Value.bool false), r_5.2)).bind fun r66 =>
  (asB r66.1).bind fun b67 =>
  (if b67 = true then (prun Tryz.prog (Builtin.len_ #[43] 3 #[v48])).bind fun v69 =>
    (bin .eql v69 (Value.int IntKind.i64 0)).bind fun v70 =>
    some (v70, r66.2)
   else some ((Value.bool false), r66.2)).bind fun r71 =>
  (asB r71.1).bind fun b72 =>
  (if b72 = true then (prun Tryz.prog (Instr.fieldAt 36 r18.1 1)).bind fun v73 =>
    (rrun Tryz.prog (Instr.loadAt 34 v73) r71.2).bind fun v74 =>
    (prun Tryz.prog (Builtin.len_ #[34] 3 #[v74])).bind fun v75 =>
    (bin .eql v75 (Value.int IntKind.i64 0)).bind fun v76 =>
    some (v76, r71.2)
   else some ((Value.bool false), r71.2)).bind fun r77 =>
  (asB r22.1).bind fun b79 =>
  (if b79 = true then (bin .eql v27 v33).bind fun v82 =>
    some (v82, r77.2)
   else some ((Value.bool false), r77.2)).bind fun r83 =>
  (asB r83.1).bind fun b84 =>
  (if b84 = true then (bin .eql v28 v34).bind fun v87 =>
    some (v87, r83.2)
   else some ((Value.bool false), r83.2)).bind fun r88 =>
  (asB r88.1).bind fun b89 =>
  (if b89 = true then some (r77.1, r88.2)
   else some ((Value.bool false), r88.2)).bind fun r91 =>
  (asB r91.1).bind fun b92 =>
  (if b92 = true then (bin .eql v38 (Value.int IntKind.i64 1)).bind fun v94 =>
    some (v94, r91.2)
   else some ((Value.bool false), r91.2)).bind fun r95 =>
  (asB r95.1).bind fun b96 =>
  (if b96 = true then (bin .eql v44 (Value.int IntKind.i64 1)).bind fun v98 =>
    some (v98, r95.2)
   else some ((Value.bool false), r95.2)).bind fun r99 =>
  (asB r99.1).bind fun b100 =>
  (if b100 = true then (bin .eql v50 (Value.int IntKind.i64 1)).bind fun v102 =>
    some (v102, r99.2)
   else some ((Value.bool false), r99.2)).bind fun r103 =>
  (asB r103.1).bind fun b104 =>
  (if b104 = true then (bin .eql v57 (Value.int IntKind.i64 1)).bind fun v106 =>
    some (v106, r103.2)
   else some ((Value.bool false), r103.2)).bind fun r107 =>
  some (Res.ret [r107.1] r107.2)).bind Res.done
theorem f3.eq (call dfr : CallF) (limit0 : Value) (length1 : Value) (W0 : World) : aFun Tryz.prog call dfr Tryz.f3 f3.ann (ofArgs #[limit0, length1]) W0 = f3 call limit0 length1 W0 := by kernel_rfl

/-- dailies/dailieslaw13.alive -/
def f4.ann : Ann := (.s .z (.s .z (.s (.s .z (.c (.s .z .z) .z)) (.s .z (.s .z (.s .z .z))))))
noncomputable def f4 (call : CallF)  (W0 : World) : Option (Value × World) :=
  ((erun Tryz.prog (Instr.buildSlice 53 3 #[(0, (Value.int IntKind.u8 1)), (1, (Value.int IntKind.u8 2)), (2, (Value.int IntKind.u8 3))]) W0).bind fun r6 =>
  (call 11 #[r6.1] r6.2).bind fun r7 =>
  (rrun Tryz.prog (do eqGuard .eql 51 (Operand.tmp 8) (Operand.const Value.nilIface) r7.1 Value.nilIface; binOp .eql 51 r7.1 Value.nilIface) r7.2).bind fun v9 =>
  (asB v9).bind fun b10 =>
  (if b10 = false then (imethod Tryz.prog r7.1 "Size" r7.2).bind fun m12 =>
    (call m12.1 #[m12.2] r7.2).bind fun r12 =>
    (bin .neq r12.1 (Value.int IntKind.i64 3)).bind fun v13 =>
    some (v13, r12.2)
   else some ((Value.bool true), r7.2)).bind fun r14 =>
  (asB r14.1).bind fun c14 =>
  if c14 then
    some (Res.ret [(Value.bool false)] r14.2)
  else
  (imethod Tryz.prog r7.1 "Read" r14.2).bind fun m17 =>
  (call m17.1 #[m17.2, (Value.int IntKind.i64 1), (Value.int IntKind.i64 2)] r14.2).bind fun r17 =>
  (prun Tryz.prog (Instr.extract r17.1 0)).bind fun v18 =>
  (prun Tryz.prog (Instr.extract r17.1 1)).bind fun v19 =>
  (call 5 #[(Value.int IntKind.i64 1000), (Value.int IntKind.i64 500)] r17.2).bind fun r21 =>
  (prun Tryz.prog (Instr.extract r21.1 0)).bind fun v22 =>
  (prun Tryz.prog (Instr.extract r21.1 1)).bind fun v23 =>
  (bin .eql v19 (Value.int IntKind.i64 0)).bind fun v25 =>
  (asB v25).bind fun b26 =>
  (if b26 = true then (rrun Tryz.prog (convert 53 9 v18) r21.2).bind fun v28 =>
    (prun Tryz.prog (do eqGuard .eql 9 (Operand.tmp 28) (Operand.const (Value.string { data := #[2, 3] })) v28 (Value.string { data := #[2, 3] }); binOp .eql 9 v28 (Value.string { data := #[2, 3] }))).bind fun v29 =>
    some (v29, r21.2)
   else some ((Value.bool false), r21.2)).bind fun r30 =>
  (asB r30.1).bind fun b31 =>
  (if b31 = true then (bin .eql v22 (Value.int IntKind.i64 5000)).bind fun v33 =>
    some (v33, r30.2)
   else some ((Value.bool false), r30.2)).bind fun r34 =>
  (asB r34.1).bind fun b35 =>
  (if b35 = true then (bin .eql v23 (Value.int IntKind.i64 0)).bind fun v37 =>
    some (v37, r34.2)
   else some ((Value.bool false), r34.2)).bind fun r38 =>
  some (Res.ret [r38.1] r38.2)).bind Res.done
theorem f4.eq (call dfr : CallF)  (W0 : World) : aFun Tryz.prog call dfr Tryz.f4 f4.ann (ofArgs #[]) W0 = f4 call  W0 := by kernel_rfl

/-- dailies/view.Bound -/
def f5.ann : Ann := (.s .z (.s (.s .z (.c (.s .z .z) .z)) (.s .z .z)))
noncomputable def f5 (call : CallF) (limit0 : Value) (length1 : Value) (W0 : World) : Option (Value × World) :=
  ((bin .lss limit0 (Value.int IntKind.i64 0)).bind fun v7 =>
  (asB v7).bind fun b8 =>
  (if b8 = false then (bin .gtr limit0 (Value.int IntKind.i64 4194304)).bind fun v10 =>
    some (v10, W0)
   else some ((Value.bool true), W0)).bind fun r11 =>
  (asB r11.1).bind fun b12 =>
  (if b12 = false then (bin .lss length1 (Value.int IntKind.i64 0)).bind fun v14 =>
    some (v14, r11.2)
   else some ((Value.bool true), r11.2)).bind fun r15 =>
  (asB r15.1).bind fun b16 =>
  (if b16 = false then (bin .gtr length1 (Value.int IntKind.i64 268435456)).bind fun v18 =>
    some (v18, r15.2)
   else some ((Value.bool true), r15.2)).bind fun r19 =>
  (asB r19.1).bind fun c19 =>
  if c19 then
    some (Res.ret [(Value.int IntKind.i64 0), (Value.int IntKind.i64 1)] r19.2)
  else
  (bin .mul (Value.int IntKind.i64 4) limit0).bind fun v21 =>
  (bin .mul (Value.int IntKind.i64 2) length1).bind fun v23 =>
  (bin .add v21 v23).bind fun v24 =>
  some (Res.ret [v24, (Value.int IntKind.i64 0)] r19.2)).bind Res.done
theorem f5.eq (call dfr : CallF) (limit0 : Value) (length1 : Value) (W0 : World) : aFun Tryz.prog call dfr Tryz.f5 f5.ann (ofArgs #[limit0, length1]) W0 = f5 call limit0 length1 W0 := by kernel_rfl

/-- dailies/dailiesref13.Bound -/
def f6.ann : Ann := (.s .z (.s (.s .z (.c (.s .z .z) .z)) (.s .z .z)))
noncomputable def f6 (call : CallF) (limit0 : Value) (length1 : Value) (W0 : World) : Option (Value × World) :=
  ((bin .lss limit0 (Value.int IntKind.i64 0)).bind fun v7 =>
  (asB v7).bind fun b8 =>
  (if b8 = false then (bin .gtr limit0 (Value.int IntKind.i64 4194304)).bind fun v10 =>
    some (v10, W0)
   else some ((Value.bool true), W0)).bind fun r11 =>
  (asB r11.1).bind fun b12 =>
  (if b12 = false then (bin .lss length1 (Value.int IntKind.i64 0)).bind fun v14 =>
    some (v14, r11.2)
   else some ((Value.bool true), r11.2)).bind fun r15 =>
  (asB r15.1).bind fun b16 =>
  (if b16 = false then (bin .gtr length1 (Value.int IntKind.i64 268435456)).bind fun v18 =>
    some (v18, r15.2)
   else some ((Value.bool true), r15.2)).bind fun r19 =>
  (asB r19.1).bind fun c19 =>
  if c19 then
    some (Res.ret [(Value.int IntKind.i64 0), (Value.int IntKind.i64 1)] r19.2)
  else
  (bin .mul (Value.int IntKind.i64 4) limit0).bind fun v21 =>
  (bin .mul (Value.int IntKind.i64 2) length1).bind fun v23 =>
  (bin .add v21 v23).bind fun v24 =>
  some (Res.ret [v24, (Value.int IntKind.i64 0)] r19.2)).bind Res.done
theorem f6.eq (call dfr : CallF) (limit0 : Value) (length1 : Value) (W0 : World) : aFun Tryz.prog call dfr Tryz.f6 f6.ann (ofArgs #[limit0, length1]) W0 = f6 call limit0 length1 W0 := by kernel_rfl

/-- dailies/view.Head -/
def f7.ann : Ann := (.s .z (.s (.s .z (.c (.s .z .z) .z)) (.s .z (.s (.s .z (.c (.s .z .z) .z)) (.s .z .z)))))
noncomputable def f7 (call : CallF) (src0 : Value) (W0 : World) : Option (Value × World) :=
  ((erun Tryz.prog (Instr.alloc 31 true (.tuple #[])) W0).bind fun r2 =>
  (rrun Tryz.prog (do eqGuard .eql 51 (Operand.tmp 6) (Operand.const Value.nilIface) src0 Value.nilIface; binOp .eql 51 src0 Value.nilIface) r2.2).bind fun v7 =>
  (asB v7).bind fun c7 =>
  if c7 then
    (prun Tryz.prog (Instr.build 31 #[])).bind fun v8 =>
    (erun Tryz.prog (Instr.storeAt 31 r2.1 v8) r2.2).bind fun r =>
    some (Res.ret [r2.1, (Value.int IntKind.i64 1)] r.2)
  else
  (call 12 #[src0] r2.2).bind fun r11 =>
  (prun Tryz.prog (Instr.extract r11.1 0)).bind fun v12 =>
  (prun Tryz.prog (Instr.extract r11.1 1)).bind fun v13 =>
  (bin .neq v13 (Value.int IntKind.i64 0)).bind fun v15 =>
  (asB v15).bind fun c15 =>
  if c15 then
    (prun Tryz.prog (Instr.build 31 #[])).bind fun v16 =>
    (erun Tryz.prog (Instr.storeAt 31 r2.1 v16) r11.2).bind fun r_1 =>
    some (Res.ret [r2.1, v13] r_1.2)
  else
  (nilV Tryz.prog v12).bind fun v19 =>
  (prun Tryz.prog (Instr.fieldAt 65 v19 2)).bind fun v20 =>
  (rrun Tryz.prog (Instr.loadAt 31 v20) r11.2).bind fun v21 =>
  (erun Tryz.prog (Instr.storeAt 31 r2.1 v21) r11.2).bind fun r_2 =>
  some (Res.ret [r2.1, (Value.int IntKind.i64 0)] r_2.2)).bind (Res.doneR Tryz.prog [.cell 2 31, .tmp 3])
theorem f7.eq (call dfr : CallF) (src0 : Value) (W0 : World) : aFun Tryz.prog call dfr Tryz.f7 f7.ann (ofArgs #[src0]) W0 = f7 call src0 W0 := by kernel_rfl

/-- dailies/view.Whole -/
def f8.ann : Ann := (.s .z (.s .z .z))
noncomputable def f8 (call : CallF) (src0 : Value) (limit1 : Value) (W0 : World) : Option (Value × World) :=
  ((erun Tryz.prog (Instr.alloc 36 true (.tuple #[])) W0).bind fun r4 =>
  (erun Tryz.prog (Instr.alloc 40 true (.tuple #[])) r4.2).bind fun r5 =>
  (prun Tryz.prog (Instr.build 48 #[])).bind fun v8 =>
  (call 13 #[src0, v8, (Value.bool true), limit1] r5.2).bind fun r10 =>
  (prun Tryz.prog (Instr.extract r10.1 0)).bind fun v11 =>
  (prun Tryz.prog (Instr.extract r10.1 1)).bind fun v12 =>
  (prun Tryz.prog (Instr.extract r10.1 2)).bind fun v13 =>
  (erun Tryz.prog (Instr.storeAt 36 r4.1 v11) r10.2).bind fun r =>
  (erun Tryz.prog (Instr.storeAt 40 r5.1 v12) r.2).bind fun r_1 =>
  some (Res.ret [r4.1, r5.1, v13] r_1.2)).bind (Res.doneR Tryz.prog [.cell 4 36, .cell 5 40, .tmp 6])
theorem f8.eq (call dfr : CallF) (src0 : Value) (limit1 : Value) (W0 : World) : aFun Tryz.prog call dfr Tryz.f8 f8.ann (ofArgs #[src0, limit1]) W0 = f8 call src0 limit1 W0 := by kernel_rfl

/-- dailies/view.Slice -/
def f9.ann : Ann := (.s .z (.s .z (.s (.s .z (.c (.s .z .z) .z)) (.s (.s .z (.s .z (.c (.s .z .z) .z))) (.s .z (.s .z (.s .z (.s .z (.s .z .z)))))))))
noncomputable def f9 (call : CallF) (src0 : Value) (n1 : Value) (limit2 : Value) (W0 : World) : Option (Value × World) :=
  ((erun Tryz.prog (Instr.box 3 n1) W0).bind fun r4 =>
  (erun Tryz.prog (Instr.alloc 40 true (.tuple #[])) r4.2).bind fun r7 =>
  (call 14 #[src0, limit2, (.func (Fn.func 15) #[] #[r4.1])] r7.2).bind fun r20 =>
  (prun Tryz.prog (Instr.extract r20.1 0)).bind fun v21 =>
  (prun Tryz.prog (Instr.extract r20.1 1)).bind fun v22 =>
  (prun Tryz.prog (Instr.extract r20.1 2)).bind fun v23 =>
  (bin .neq v23 (Value.int IntKind.i64 0)).bind fun v25 =>
  (asB v25).bind fun c25 =>
  if c25 then
    (prun Tryz.prog (Instr.build 40 #[])).bind fun v26 =>
    (erun Tryz.prog (Instr.storeAt 40 r7.1 v26) r20.2).bind fun r =>
    some (Res.ret [(Value.slice none 0 0), r7.1, v23] r.2)
  else
  (call 16 #[v21, v22] r20.2).bind fun r30 =>
  (bin .neq r30.1 (Value.int IntKind.i64 0)).bind fun v32 =>
  (asB v32).bind fun c32 =>
  if c32 then
    (prun Tryz.prog (Instr.build 40 #[])).bind fun v33 =>
    (erun Tryz.prog (Instr.storeAt 40 r7.1 v33) r30.2).bind fun r_1 =>
    some (Res.ret [(Value.slice none 0 0), r7.1, r30.1] r_1.2)
  else
  (call 17 #[v21, v22] r30.2).bind fun r37 =>
  (erun Tryz.prog (Instr.alloc 40 true (.tuple #[])) r37.2).bind fun r13 =>
  (erun Tryz.prog (Instr.storeAt 40 r13.1 r37.1) r13.2).bind fun r_2 =>
  (rrun Tryz.prog (Instr.loadAt 3 r4.1) r_2.2).bind fun v40 =>
  (call 18 #[v21, v40] r_2.2).bind fun r41 =>
  (prun Tryz.prog (Instr.extract r41.1 0)).bind fun v42 =>
  (prun Tryz.prog (Instr.extract r41.1 1)).bind fun v43 =>
  (erun Tryz.prog (Instr.buildSlice 38 1 #[(0, v43)]) r41.2).bind fun r45 =>
  (prun Tryz.prog (Instr.fieldAt 40 r13.1 2)).bind fun v46 =>
  (erun Tryz.prog (Instr.storeAt 38 v46 r45.1) r45.2).bind fun r_3 =>
  (nilV Tryz.prog v21).bind fun v48 =>
  (prun Tryz.prog (Instr.fieldAt 65 v48 1)).bind fun v49 =>
  (rrun Tryz.prog (Instr.loadAt 60 v49) r_3.2).bind fun v50 =>
  (call 19 #[v50] r_3.2).bind fun r51 =>
  (prun Tryz.prog (Instr.fieldAt 40 r13.1 3)).bind fun v52 =>
  (erun Tryz.prog (Instr.storeAt 3 v52 r51.1) r51.2).bind fun r_4 =>
  (rrun Tryz.prog (Instr.loadAt 40 r13.1) r_4.2.drew).bind fun v54 =>
  (erun Tryz.prog (Instr.storeAt 40 r7.1 v54) r_4.2.drew).bind fun r_5 =>
  some (Res.ret [v42, r7.1, (Value.int IntKind.i64 0)] r_5.2)).bind (Res.doneR Tryz.prog [.tmp 6, .cell 7 40, .tmp 8])
theorem f9.eq (call dfr : CallF) (src0 : Value) (n1 : Value) (limit2 : Value) (W0 : World) : aFun Tryz.prog call dfr Tryz.f9 f9.ann (ofArgs #[src0, n1, limit2]) W0 = f9 call src0 n1 limit2 W0 := by kernel_rfl

/-- dailies/view.Region -/
def f10.ann : Ann := (.s .z (.s .z .z))
noncomputable def f10 (call : CallF) (src0 : Value) (r1 : Value) (limit2 : Value) (W0 : World) : Option (Value × World) :=
  ((erun Tryz.prog (Instr.box 48 r1) W0).bind fun r4 =>
  (erun Tryz.prog (Instr.alloc 36 true (.tuple #[])) r4.2).bind fun r6 =>
  (erun Tryz.prog (Instr.alloc 40 true (.tuple #[])) r6.2).bind fun r7 =>
  (rrun Tryz.prog (Instr.loadAt 48 r4.1) r7.2).bind fun v10 =>
  (call 13 #[src0, v10, (Value.bool false), limit2] r7.2).bind fun r12 =>
  (prun Tryz.prog (Instr.extract r12.1 0)).bind fun v13 =>
  (prun Tryz.prog (Instr.extract r12.1 1)).bind fun v14 =>
  (prun Tryz.prog (Instr.extract r12.1 2)).bind fun v15 =>
  (erun Tryz.prog (Instr.storeAt 36 r6.1 v13) r12.2).bind fun r =>
  (erun Tryz.prog (Instr.storeAt 40 r7.1 v14) r.2).bind fun r_1 =>
  some (Res.ret [r6.1, r7.1, v15] r_1.2)).bind (Res.doneR Tryz.prog [.cell 6 36, .cell 7 40, .tmp 8])
theorem f10.eq (call dfr : CallF) (src0 : Value) (r1 : Value) (limit2 : Value) (W0 : World) : aFun Tryz.prog call dfr Tryz.f10 f10.ann (ofArgs #[src0, r1, limit2]) W0 = f10 call src0 r1 limit2 W0 := by kernel_rfl

/-- dailies/view.Of -/
def f11.ann : Ann := (.s .z (.s .z .z))
noncomputable def f11 (call : CallF) (b0 : Value) (W0 : World) : Option (Value × World) :=
  ((erun Tryz.prog (Instr.buildSlice 53 0 #[]) W0).bind fun r3 =>
  (erun Tryz.prog (Builtin.append_ #[53, 53] 53 #[r3.1, b0]) r3.2).bind fun r5 =>
  (prun Tryz.prog (Instr.build 76 #[(0, r5.1)])).bind fun v6 =>
  (prun Tryz.prog (Instr.makeInterface 76 v6)).bind fun v7 =>
  some (Res.ret [v7] r5.2)).bind Res.done
theorem f11.eq (call dfr : CallF) (b0 : Value) (W0 : World) : aFun Tryz.prog call dfr Tryz.f11 f11.ann (ofArgs #[b0]) W0 = f11 call b0 W0 := by kernel_rfl

/-- dailies/view.region -/
def f13.ann : Ann := (.s .z (.s .z (.s (.s .z (.c (.s .z .z) .z)) (.s (.s .z (.s .z (.c (.s .z .z) .z))) (.s .z (.s .z (.s (.s .z (.b [5, 8, 9, 11, 12, 16] (.l [5, 8, 9, 11, 12, 15, 16, 66, 67] (.s .z (.s (.c .z .z) (.s (.b [5, 8, 9, 11, 12, 15, 16, 66, 67] (.s .z (.s .z (.s .z .z)))) .z)))))) (.s .z (.s (.s .z (.b [8, 9, 11, 16, 22] (.l [5, 8, 9, 11, 16, 22, 100, 101, 102] (.s .z (.s (.c .z .z) (.s (.b [5, 8, 9, 11, 16, 22, 100, 101, 102] (.s .z (.s .z (.s .z (.s .z (.b [5, 8, 9, 11, 16, 22, 100, 101, 102] (.l [5, 8, 9, 11, 16, 22, 24, 100, 101, 102, 118, 119, 120] (.s .z (.s (.c .z .z) (.s (.b [5, 8, 9, 11, 16, 22, 24, 100, 101, 102, 118, 119, 120] (.s .z .z)) .z)))))))))) .z)))))) (.s .z (.s .z .z)))))))))))
noncomputable def f13.l0 (call : CallF) (vs : List Value) (W1 : World) : Option Res :=
  let a5 := nth vs 0
  let v8 := nth vs 1
  let v9 := nth vs 2
  let v11 := nth vs 3
  let v12 := nth vs 4
  let v15 := nth vs 5
  let v16 := nth vs 6
  let v66 := nth vs 7
  let v67 := nth vs 8
  (bin .lss v67 v66).bind fun v68 =>
  (asB v68).bind fun c68 =>
  if c68 then
    ((rrun Tryz.prog (Instr.loadAt 27 v15) W1).bind fun v71 =>
    (rrun Tryz.prog (Instr.loadAt 48 a5) W1).bind fun v73 =>
    (call 27 #[v71, v67, v73] W1).bind fun r74 =>
    (prun Tryz.prog (Instr.extract r74.1 0)).bind fun v75 =>
    (prun Tryz.prog (Instr.extract r74.1 1)).bind fun v76 =>
    (erun Tryz.prog (Instr.alloc 48 true (.tuple #[])) r74.2).bind fun r18 =>
    (erun Tryz.prog (Instr.storeAt 48 r18.1 v75) r18.2).bind fun r_6 =>
    ((nilV Tryz.prog v11).bind fun v79 =>
    some (v79, r_6.2.drew)).bind fun r79 =>
    ((prun Tryz.prog (Instr.fieldAt 65 r79.1 1)).bind fun v80 =>
    some (v80, r79.2)).bind fun r80 =>
    ((rrun Tryz.prog (Instr.loadAt 60 r80.1) r80.2).bind fun v81 =>
    some (v81, r80.2)).bind fun r81 =>
    ((prun Tryz.prog (Instr.fieldAt 48 r18.1 2)).bind fun v82 =>
    some (v82, r81.2)).bind fun r82 =>
    ((rrun Tryz.prog (Instr.loadAt 3 r82.1) r82.2).bind fun v83 =>
    some (v83, r82.2)).bind fun r83 =>
    ((prun Tryz.prog (Instr.fieldAt 48 r18.1 3)).bind fun v84 =>
    some (v84, r83.2)).bind fun r84 =>
    ((rrun Tryz.prog (Instr.loadAt 3 r84.1) r84.2).bind fun v85 =>
    some (v85, r84.2)).bind fun r85 =>
    ((bin .mul r83.1 r85.1).bind fun v86 =>
    some (v86, r85.2)).bind fun r86 =>
    ((call 28 #[r81.1, r86.1] r86.2).bind fun r87_1 =>
    some (r87_1.1, r87_1.2)).bind fun r87 =>
    ((prun Tryz.prog (Instr.extract r87.1 0)).bind fun v88 =>
    some (v88, r87.2)).bind fun r88 =>
    ((prun Tryz.prog (Instr.extract r87.1 1)).bind fun v89 =>
    some (v89, r88.2)).bind fun r89 =>
    chkThen (True)
    ((prun Tryz.prog (Instr.fieldAt 36 v16 1)).bind fun v90 =>
    (rrun Tryz.prog (Instr.loadAt 34 v90) r89.2).bind fun v91 =>
    (erun Tryz.prog (Instr.buildSlice 34 1 #[(0, r88.1)]) r89.2).bind fun r93 =>
    (erun Tryz.prog (Builtin.append_ #[34, 34] 34 #[v91, r93.1]) r93.2).bind fun r94 =>
    (prun Tryz.prog (Instr.fieldAt 36 v16 1)).bind fun v95 =>
    (erun Tryz.prog (Instr.storeAt 34 v95 r94.1) r94.2).bind fun r_7 =>
    some (Res.norm [a5, v8, v9, v11, v12, v15, v16, v66, v67] r_7.2))).bind fun (r : Res) => (r.unblock 1).cont fun vs_1 W2 =>
    let a5_1 := nth vs_1 0
    let v8_1 := nth vs_1 1
    let v9_1 := nth vs_1 2
    let v11_1 := nth vs_1 3
    let v12_1 := nth vs_1 4
    let v15_1 := nth vs_1 5
    let v16_1 := nth vs_1 6
    let v66_1 := nth vs_1 7
    let v67_1 := nth vs_1 8
    (bin .add v67_1 (Value.int IntKind.i64 1)).bind fun v96 =>
    some (Res.norm [a5_1, v8_1, v9_1, v11_1, v12_1, v15_1, v16_1, v66_1, v96] W2)
  else
  some (Res.exit 0 [a5, v8, v9, v11, v12, v16] W1)
noncomputable def f13.l1 (call : CallF) (vs_4 : List Value) (W5 : World) : Option Res :=
  let a5_4 := nth vs_4 0
  let v8_4 := nth vs_4 1
  let v9_4 := nth vs_4 2
  let v11_4 := nth vs_4 3
  let v16_4 := nth vs_4 4
  let v22_1 := nth vs_4 5
  let v24 := nth vs_4 6
  let v100_1 := nth vs_4 7
  let v101_2 := nth vs_4 8
  let v102_1 := nth vs_4 9
  let v118 := nth vs_4 10
  let v119_1 := nth vs_4 11
  let v120 := nth vs_4 12
  (bin .lss v120 v119_1).bind fun v121 =>
  (asB v121).bind fun c121 =>
  if c121 then
    ((prun Tryz.prog (Instr.indexAt 43 v118 v120)).bind fun v123 =>
    (rrun Tryz.prog (Instr.loadAt 91 v123) W5).bind fun v124 =>
    (erun Tryz.prog (Instr.alloc 91 true (.tuple #[])) W5).bind fun r28 =>
    (erun Tryz.prog (Instr.storeAt 91 r28.1 v124) r28.2).bind fun r_10 =>
    (rrun Tryz.prog (Instr.loadAt 36 v16_4) r_10.2).bind fun v126 =>
    (rrun Tryz.prog (Instr.loadAt 48 a5_4) r_10.2).bind fun v127 =>
    (rrun Tryz.prog (Instr.loadAt 91 r28.1) r_10.2).bind fun v130 =>
    (call 29 #[v11_4, v126, v127, v120, v24, v130] r_10.2).bind fun r131 =>
    some (Res.norm [a5_4, v8_4, v9_4, v11_4, v16_4, v22_1, v24, v100_1, v101_2, v102_1, v118, v119_1, v120] r131.2)).bind fun (r : Res) => (r.unblock 5).cont fun vs_5 W6 =>
    let a5_5 := nth vs_5 0
    let v8_5 := nth vs_5 1
    let v9_5 := nth vs_5 2
    let v11_5 := nth vs_5 3
    let v16_5 := nth vs_5 4
    let v22_2 := nth vs_5 5
    let v24_1 := nth vs_5 6
    let v100_2 := nth vs_5 7
    let v101_3 := nth vs_5 8
    let v102_2 := nth vs_5 9
    let v118_1 := nth vs_5 10
    let v119_2 := nth vs_5 11
    let v120_1 := nth vs_5 12
    (bin .add v120_1 (Value.int IntKind.i64 1)).bind fun v132 =>
    some (Res.norm [a5_5, v8_5, v9_5, v11_5, v16_5, v22_2, v24_1, v100_2, v101_3, v102_2, v118_1, v119_2, v132] W6)
  else
  some (Res.exit 4 [a5_4, v8_4, v9_4, v11_4, v16_4, v22_1, v100_1, v101_2, v102_1] W5)
noncomputable def f13.l2 (call : CallF) (vs_3 : List Value) (W4 : World) : Option Res :=
  let a5_3 := nth vs_3 0
  let v8_3 := nth vs_3 1
  let v9_3 := nth vs_3 2
  let v11_3 := nth vs_3 3
  let v16_3 := nth vs_3 4
  let v22 := nth vs_3 5
  let v100 := nth vs_3 6
  let v101_1 := nth vs_3 7
  let v102 := nth vs_3 8
  (bin .lss v102 v101_1).bind fun v103 =>
  (asB v103).bind fun c103 =>
  if c103 then
    ((prun Tryz.prog (Instr.indexAt 37 v100 v102)).bind fun v104 =>
    (rrun Tryz.prog (Instr.loadAt 3 v104) W4).bind fun v105 =>
    (call 18 #[v11_3, v105] W4).bind fun r109 =>
    (prun Tryz.prog (Instr.extract r109.1 0)).bind fun v110 =>
    (prun Tryz.prog (Instr.extract r109.1 1)).bind fun v111 =>
    (prun Tryz.prog (Instr.fieldAt 40 v22 2)).bind fun v112 =>
    (rrun Tryz.prog (Instr.loadAt 38 v112) r109.2).bind fun v113 =>
    (erun Tryz.prog (Instr.buildSlice 38 1 #[(0, v111)]) r109.2).bind fun r115 =>
    (erun Tryz.prog (Builtin.append_ #[38, 38] 38 #[v113, r115.1]) r115.2).bind fun r116 =>
    (prun Tryz.prog (Instr.fieldAt 40 v22 2)).bind fun v117 =>
    (erun Tryz.prog (Instr.storeAt 38 v117 r116.1) r116.2).bind fun r_9 =>
    (prun Tryz.prog (Builtin.len_ #[43] 3 #[v110])).bind fun v119 =>
    (iter (f13.l1 call) [a5_3, v8_3, v9_3, v11_3, v16_3, v22, v105, v100, v101_1, v102, v110, v119, (Value.int IntKind.i64 0)] r_9.2).bind fun (r : Res) => (r.unblock 4).cont fun vs_6 W7 =>
    let a5_6 := nth vs_6 0
    let v8_6 := nth vs_6 1
    let v9_6 := nth vs_6 2
    let v11_6 := nth vs_6 3
    let v16_6 := nth vs_6 4
    let v22_3 := nth vs_6 5
    let v100_3 := nth vs_6 6
    let v101_4 := nth vs_6 7
    let v102_3 := nth vs_6 8
    some (Res.norm [a5_6, v8_6, v9_6, v11_6, v16_6, v22_3, v100_3, v101_4, v102_3] W7)).bind fun (r : Res) => (r.unblock 3).cont fun vs_7 W8 =>
    let a5_7 := nth vs_7 0
    let v8_7 := nth vs_7 1
    let v9_7 := nth vs_7 2
    let v11_7 := nth vs_7 3
    let v16_7 := nth vs_7 4
    let v22_4 := nth vs_7 5
    let v100_4 := nth vs_7 6
    let v101_5 := nth vs_7 7
    let v102_4 := nth vs_7 8
    (bin .add v102_4 (Value.int IntKind.i64 1)).bind fun v133 =>
    some (Res.norm [a5_7, v8_7, v9_7, v11_7, v16_7, v22_4, v100_4, v101_5, v133] W8)
  else
  some (Res.exit 2 [v8_3, v9_3, v11_3, v16_3, v22] W4)
noncomputable def f13 (call : CallF) (t0 : Value) (o1 : Value) (A2 : Value) (r3 : Value) (W0 : World) : Option (Value × World) :=
  ((erun Tryz.prog (Instr.box 48 o1) W0).bind fun r5 =>
  (erun Tryz.prog (Instr.box 4 A2) r5.2).bind fun r6 =>
  (erun Tryz.prog (Instr.alloc 36 true (.tuple #[])) r6.2).bind fun r8 =>
  (erun Tryz.prog (Instr.alloc 40 true (.tuple #[])) r8.2).bind fun r9 =>
  (call 14 #[t0, r3, (.func (Fn.func 24) #[] #[r6.1, r5.1])] r9.2).bind fun r33 =>
  (prun Tryz.prog (Instr.extract r33.1 0)).bind fun v34 =>
  (prun Tryz.prog (Instr.extract r33.1 1)).bind fun v35 =>
  (prun Tryz.prog (Instr.extract r33.1 2)).bind fun v36 =>
  (bin .neq v36 (Value.int IntKind.i64 0)).bind fun v38 =>
  (asB v38).bind fun c38 =>
  if c38 then
    (prun Tryz.prog (Instr.build 36 #[])).bind fun v39 =>
    (prun Tryz.prog (Instr.build 40 #[])).bind fun v40 =>
    (erun Tryz.prog (Instr.storeAt 36 r8.1 v39) r33.2).bind fun r =>
    (erun Tryz.prog (Instr.storeAt 40 r9.1 v40) r.2).bind fun r_1 =>
    some (Res.ret [r8.1, r9.1, v36] r_1.2)
  else
  (call 16 #[v34, v35] r33.2).bind fun r44 =>
  (bin .neq r44.1 (Value.int IntKind.i64 0)).bind fun v46 =>
  (asB v46).bind fun c46 =>
  if c46 then
    (prun Tryz.prog (Instr.build 36 #[])).bind fun v47 =>
    (prun Tryz.prog (Instr.build 40 #[])).bind fun v48 =>
    (erun Tryz.prog (Instr.storeAt 36 r8.1 v47) r44.2).bind fun r_2 =>
    (erun Tryz.prog (Instr.storeAt 40 r9.1 v48) r_2.2).bind fun r_3 =>
    some (Res.ret [r8.1, r9.1, r44.1] r_3.2)
  else
  (nilV Tryz.prog v34).bind fun v51 =>
  (prun Tryz.prog (Instr.fieldAt 65 v51 2)).bind fun v52 =>
  (prun Tryz.prog (Instr.fieldAt 31 v52 0)).bind fun v53 =>
  (rrun Tryz.prog (Instr.loadAt 27 v53) r44.2).bind fun v54 =>
  (erun Tryz.prog (Instr.alloc 27 true (.tuple #[])) r44.2).bind fun r15 =>
  (erun Tryz.prog (Instr.storeAt 27 r15.1 v54) r15.2).bind fun r_4 =>
  (prun Tryz.prog (Instr.fieldAt 48 r5.1 2)).bind fun v55 =>
  (rrun Tryz.prog (Instr.loadAt 3 v55) r_4.2).bind fun v56 =>
  (prun Tryz.prog (Instr.fieldAt 48 r5.1 3)).bind fun v57 =>
  (rrun Tryz.prog (Instr.loadAt 3 v57) r_4.2).bind fun v58 =>
  (prun Tryz.prog (Instr.fieldAt 27 r15.1 2)).bind fun v59 =>
  (rrun Tryz.prog (Instr.loadAt 3 v59) r_4.2).bind fun v60 =>
  (prun Tryz.prog (Instr.fieldAt 27 r15.1 3)).bind fun v61 =>
  (rrun Tryz.prog (Instr.loadAt 4 v61) r_4.2).bind fun v62 =>
  (prun Tryz.prog (Instr.build 27 #[(0, v56), (1, v58), (2, v60), (3, v62)])).bind fun v63 =>
  (prun Tryz.prog (Instr.build 36 #[(0, v63)])).bind fun v64 =>
  (erun Tryz.prog (Instr.alloc 36 true (.tuple #[])) r_4.2).bind fun r16 =>
  (erun Tryz.prog (Instr.storeAt 36 r16.1 v64) r16.2).bind fun r_5 =>
  (rrun Tryz.prog (Instr.loadAt 27 r15.1) r_5.2).bind fun v65 =>
  (call 26 #[v65] r_5.2).bind fun r66 =>
  (iter (f13.l0 call) [r5.1, r8.1, r9.1, v34, v35, r15.1, r16.1, r66.1, (Value.int IntKind.i64 0)] r66.2).bind fun (r : Res) => (r.unblock 0).cont fun vs_2 W3 =>
  let a5_2 := nth vs_2 0
  let v8_2 := nth vs_2 1
  let v9_2 := nth vs_2 2
  let v11_2 := nth vs_2 3
  let v12_2 := nth vs_2 4
  let v16_2 := nth vs_2 5
  (call 17 #[v11_2, v12_2] W3).bind fun r99 =>
  (erun Tryz.prog (Instr.alloc 40 true (.tuple #[])) r99.2).bind fun r22 =>
  (erun Tryz.prog (Instr.storeAt 40 r22.1 r99.1) r22.2).bind fun r_8 =>
  (prun Tryz.prog (Builtin.len_ #[37] 3 #[v12_2])).bind fun v101 =>
  (iter (f13.l2 call) [a5_2, v8_2, v9_2, v11_2, v16_2, r22.1, v12_2, v101, (Value.int IntKind.i64 0)] r_8.2).bind fun (r : Res) => (r.unblock 2).cont fun vs_8 W9 =>
  let v8_8 := nth vs_8 0
  let v9_8 := nth vs_8 1
  let v11_8 := nth vs_8 2
  let v16_8 := nth vs_8 3
  let v22_5 := nth vs_8 4
  (nilV Tryz.prog v11_8).bind fun v135 =>
  (prun Tryz.prog (Instr.fieldAt 65 v135 1)).bind fun v136 =>
  (rrun Tryz.prog (Instr.loadAt 60 v136) W9).bind fun v137 =>
  (call 19 #[v137] W9).bind fun r138 =>
  (prun Tryz.prog (Instr.fieldAt 40 v22_5 3)).bind fun v139 =>
  (erun Tryz.prog (Instr.storeAt 3 v139 r138.1) r138.2).bind fun r_11 =>
  ((rrun Tryz.prog (Instr.loadAt 36 v16_8) r_11.2.drew).bind fun v140 =>
  some (v140, r_11.2.drew)).bind fun r140 =>
  ((rrun Tryz.prog (Instr.loadAt 40 v22_5) r140.2).bind fun v141 =>
  some (v141, r140.2)).bind fun r141 =>
  ((erun Tryz.prog (Instr.storeAt 36 v8_8 r140.1) r141.2).bind fun r_13 =>
  some (undef, r_13.2)).bind fun r_12 =>
  ((erun Tryz.prog (Instr.storeAt 40 v9_8 r141.1) r_12.2).bind fun r_15 =>
  some (undef, r_15.2)).bind fun r_14 =>
  chkThen ((((rrun Tryz.prog (Instr.loadAt 40 v22_5) r141.2).bind fun v141_1 => some v141_1) = some r141.1 ∧ ((rrun Tryz.prog (Instr.loadAt 40 v22_5) r_12.2).bind fun v141_2 => some v141_2) = some r141.1) ∧ True)
  (some (Res.ret [v8_8, v9_8, (Value.int IntKind.i64 0)] r_14.2))).bind (Res.doneR Tryz.prog [.cell 8 36, .cell 9 40, .tmp 10])
theorem f13.eq (call dfr : CallF) (t0 : Value) (o1 : Value) (A2 : Value) (r3 : Value) (W0 : World) : aFun Tryz.prog call dfr Tryz.f13 f13.ann (ofArgs #[t0, o1, A2, r3]) W0 = f13 call t0 o1 A2 r3 W0 := by kernel_rfl

/-- dailies/view.opens -/
def f14.ann : Ann := (.s .z (.s (.s .z (.c (.s .z .z) .z)) (.s .z (.s (.s .z (.c (.s .z .z) .z)) (.s (.s .z (.s .z (.c (.s .z .z) .z))) (.s .z (.s (.s .z (.c (.s .z .z) .z)) (.s (.s .z (.c (.s .z .z) .z)) (.s .z (.s (.s .z (.c (.s .z .z) .z)) (.s .z (.s .z .z))))))))))))
noncomputable def f14 (call : CallF) (src0 : Value) (limit1 : Value) (asks2 : Value) (W0 : World) : Option (Value × World) :=
  ((rrun Tryz.prog (do eqGuard .eql 51 (Operand.tmp 15) (Operand.const Value.nilIface) src0 Value.nilIface; binOp .eql 51 src0 Value.nilIface) W0).bind fun v16 =>
  (asB v16).bind fun b17 =>
  (if b17 = false then (bin .lss limit1 (Value.int IntKind.i64 0)).bind fun v19 =>
    some (v19, W0)
   else some ((Value.bool true), W0)).bind fun r20 =>
  (asB r20.1).bind fun b21 =>
  (if b21 = false then (bin .gtr limit1 (Value.int IntKind.i64 4194304)).bind fun v23 =>
    some (v23, r20.2)
   else some ((Value.bool true), r20.2)).bind fun r24 =>
  (asB r24.1).bind fun c24 =>
  if c24 then
    some (Res.ret [(Value.pointer none), (Value.slice none 0 0), (Value.int IntKind.i64 1)] r24.2)
  else
  (call 12 #[src0] r24.2).bind fun r27 =>
  (prun Tryz.prog (Instr.extract r27.1 0)).bind fun v28 =>
  (prun Tryz.prog (Instr.extract r27.1 1)).bind fun v29 =>
  (bin .neq v29 (Value.int IntKind.i64 0)).bind fun v31 =>
  (asB v31).bind fun c31 =>
  if c31 then
    some (Res.ret [(Value.pointer none), (Value.slice none 0 0), v29] r27.2)
  else
  (nilV Tryz.prog v28).bind fun v35 =>
  (prun Tryz.prog (Instr.fieldAt 65 v35 2)).bind fun v36 =>
  (prun Tryz.prog (Instr.fieldAt 31 v36 0)).bind fun v37 =>
  (rrun Tryz.prog (Instr.loadAt 27 v37) r27.2).bind fun v38 =>
  (call 30 #[v38] r27.2).bind fun r39 =>
  (prun Tryz.prog (Instr.extract r39.1 0)).bind fun v40 =>
  (prun Tryz.prog (Instr.extract r39.1 1)).bind fun v41 =>
  (bin .gtr v40 limit1).bind fun v44 =>
  (asB v44).bind fun c44 =>
  if c44 then
    some (Res.ret [(Value.pointer none), (Value.slice none 0 0), (Value.int IntKind.i64 111)] r39.2)
  else
  (callV call asks2 [v28] r39.2).bind fun r48 =>
  (prun Tryz.prog (Instr.extract r48.1 0)).bind fun v49 =>
  (prun Tryz.prog (Instr.extract r48.1 1)).bind fun v50 =>
  (bin .neq v50 (Value.int IntKind.i64 0)).bind fun v52 =>
  (asB v52).bind fun c52 =>
  if c52 then
    some (Res.ret [(Value.pointer none), (Value.slice none 0 0), v50] r48.2)
  else
  ((imethod Tryz.prog src0 "Size" r48.2.drew).bind fun m55 =>
  (call m55.1 #[m55.2] r48.2.drew).bind fun r55_1 =>
  some (r55_1.1, r55_1.2)).bind fun r55 =>
  ((nilV Tryz.prog v28).bind fun v57 =>
  some (v57, r55.2)).bind fun r57 =>
  ((prun Tryz.prog (Instr.fieldAt 65 r57.1 2)).bind fun v58 =>
  some (v58, r57.2)).bind fun r58 =>
  ((prun Tryz.prog (Instr.fieldAt 31 r58.1 6)).bind fun v59 =>
  some (v59, r58.2)).bind fun r59 =>
  ((rrun Tryz.prog (Instr.loadAt 3 r59.1) r59.2).bind fun v60 =>
  some (v60, r59.2)).bind fun r60 =>
  ((bin .neq r55.1 r60.1).bind fun v61 =>
  some (v61, r60.2)).bind fun r61 =>
  chkThen ((((rrun Tryz.prog (Instr.loadAt 3 r59.1) r48.2.drew).bind fun v60_1 => some v60_1) = some r60.1 ∧ ((rrun Tryz.prog (Instr.loadAt 3 r59.1) r55.2).bind fun v60_2 => some v60_2) = some r60.1) ∧ True)
  ((asB r61.1).bind fun c61 =>
  if c61 then
    some (Res.ret [(Value.pointer none), (Value.slice none 0 0), (Value.int IntKind.i64 125)] r61.2)
  else
  (nilV Tryz.prog v28).bind fun v65 =>
  (prun Tryz.prog (Instr.fieldAt 65 v65 2)).bind fun v66 =>
  (rrun Tryz.prog (Instr.loadAt 31 v66) r61.2).bind fun v67 =>
  (call 31 #[v67] r61.2).bind fun r68 =>
  (call 21 #[v28, (Value.int IntKind.i64 32), r68.1] r68.2).bind fun r69 =>
  (prun Tryz.prog (Instr.extract r69.1 0)).bind fun v70 =>
  (prun Tryz.prog (Instr.extract r69.1 1)).bind fun v71 =>
  (bin .neq v71 (Value.int IntKind.i64 0)).bind fun v73 =>
  (asB v73).bind fun c73 =>
  if c73 then
    some (Res.ret [(Value.pointer none), (Value.slice none 0 0), v71] r69.2)
  else
  (nilV Tryz.prog v28).bind fun v78 =>
  (prun Tryz.prog (Instr.fieldAt 65 v78 2)).bind fun v79 =>
  (rrun Tryz.prog (Instr.loadAt 31 v79) r69.2).bind fun v80 =>
  (call 32 #[v80, v70] r69.2).bind fun r82 =>
  (prun Tryz.prog (Instr.extract r82.1 0)).bind fun v83 =>
  (prun Tryz.prog (Instr.extract r82.1 1)).bind fun v84 =>
  (nilV Tryz.prog v28).bind fun v85 =>
  (prun Tryz.prog (Instr.fieldAt 65 v85 4)).bind fun v86 =>
  (erun Tryz.prog (Instr.storeAt 62 v86 v83) r82.2).bind fun r =>
  some (Res.ret [v28, v49, v84] r.2))).bind Res.done
theorem f14.eq (call dfr : CallF) (src0 : Value) (limit1 : Value) (asks2 : Value) (W0 : World) : aFun Tryz.prog call dfr Tryz.f14 f14.ann (ofArgs #[src0, limit1, asks2]) W0 = f14 call src0 limit1 asks2 W0 := by kernel_rfl

/-- (dailies/view.held).Read -/
def f163.ann : Ann := (.s .z (.s (.s .z (.c (.s .z .z) .z)) (.s .z .z)))
noncomputable def f163 (call : CallF) (s0 : Value) (at1 : Value) (n2 : Value) (W0 : World) : Option (Value × World) :=
  ((erun Tryz.prog (Instr.box 76 s0) W0).bind fun r3 =>
  (bin .lss at1 (Value.int IntKind.i64 0)).bind fun v9 =>
  (asB v9).bind fun b10 =>
  (if b10 = false then (bin .lss n2 (Value.int IntKind.i64 0)).bind fun v12 =>
    some (v12, r3.2)
   else some ((Value.bool true), r3.2)).bind fun r13 =>
  (asB r13.1).bind fun b14 =>
  (if b14 = false then (prun Tryz.prog (Instr.fieldAt 76 r3.1 0)).bind fun v16 =>
    (rrun Tryz.prog (Instr.loadAt 53 v16) r13.2).bind fun v17 =>
    (prun Tryz.prog (Builtin.len_ #[53] 3 #[v17])).bind fun v18 =>
    (bin .gtr at1 v18).bind fun v19 =>
    some (v19, r13.2)
   else some ((Value.bool true), r13.2)).bind fun r20 =>
  (asB r20.1).bind fun b21 =>
  (if b21 = false then (prun Tryz.prog (Instr.fieldAt 76 r3.1 0)).bind fun v23 =>
    (rrun Tryz.prog (Instr.loadAt 53 v23) r20.2).bind fun v24 =>
    (prun Tryz.prog (Builtin.len_ #[53] 3 #[v24])).bind fun v25 =>
    (bin .sub v25 at1).bind fun v27 =>
    (bin .gtr n2 v27).bind fun v28 =>
    some (v28, r20.2)
   else some ((Value.bool true), r20.2)).bind fun r29 =>
  (asB r29.1).bind fun c29 =>
  if c29 then
    some (Res.ret [(Value.slice none 0 0), (Value.int IntKind.i64 151)] r29.2)
  else
  (erun Tryz.prog (Instr.buildSlice 53 0 #[]) r29.2).bind fun r30 =>
  (prun Tryz.prog (Instr.fieldAt 76 r3.1 0)).bind fun v31 =>
  (rrun Tryz.prog (Instr.loadAt 53 v31) r30.2).bind fun v32 =>
  (bin .add at1 n2).bind fun v36 =>
  (prun Tryz.prog (Instr.sliceAt 53 v32 (some at1) (some v36) none)).bind fun v37 =>
  (erun Tryz.prog (Builtin.append_ #[53, 53] 53 #[r30.1, v37]) r30.2).bind fun r38 =>
  some (Res.ret [r38.1, (Value.int IntKind.i64 0)] r38.2)).bind Res.done
theorem f163.eq (call dfr : CallF) (s0 : Value) (at1 : Value) (n2 : Value) (W0 : World) : aFun Tryz.prog call dfr Tryz.f163 f163.ann (ofArgs #[s0, at1, n2]) W0 = f163 call s0 at1 n2 W0 := by kernel_rfl

/-- (dailies/view.held).Size -/
def f164.ann : Ann := (.s .z (.s .z .z))
noncomputable def f164 (call : CallF) (s0 : Value) (W0 : World) : Option (Value × World) :=
  ((erun Tryz.prog (Instr.box 76 s0) W0).bind fun r1 =>
  (prun Tryz.prog (Instr.fieldAt 76 r1.1 0)).bind fun v3 =>
  (rrun Tryz.prog (Instr.loadAt 53 v3) r1.2).bind fun v4 =>
  (prun Tryz.prog (Builtin.len_ #[53] 3 #[v4])).bind fun v5 =>
  some (Res.ret [v5] r1.2)).bind Res.done
theorem f164.eq (call dfr : CallF) (s0 : Value) (W0 : World) : aFun Tryz.prog call dfr Tryz.f164 f164.ann (ofArgs #[s0]) W0 = f164 call s0 W0 := by kernel_rfl

def anns (f : FuncId) : Ann := match f with
  | 3 => f3.ann
  | 4 => f4.ann
  | 5 => f5.ann
  | 6 => f6.ann
  | 7 => f7.ann
  | 8 => f8.ann
  | 9 => f9.ann
  | 10 => f10.ann
  | 11 => f11.ann
  | 13 => f13.ann
  | 14 => f14.ann
  | 163 => f163.ann
  | 164 => f164.ann
  | _ => .z
noncomputable abbrev R (prim : Prim) : CallF := Go.Sh.run Tryz.prog anns prim
theorem f3.run {prim : Prim} {limit0 length1 : Value} {w : World} {r : Value × World} (hn : prim.call 3 #[limit0, length1] w = none) (h : f3 (R prim) limit0 length1 w = some r) : R prim 3 #[limit0, length1] w = some r := run_body Tryz.func3 (by kernel_rfl) hn (by rw [show anns 3 = f3.ann from rfl, f3.eq]; exact h)
theorem f4.run {prim : Prim} {w : World} {r : Value × World} (hn : prim.call 4 #[] w = none) (h : f4 (R prim)  w = some r) : R prim 4 #[] w = some r := run_body Tryz.func4 (by kernel_rfl) hn (by rw [show anns 4 = f4.ann from rfl, f4.eq]; exact h)
theorem f5.run {prim : Prim} {limit0 length1 : Value} {w : World} {r : Value × World} (hn : prim.call 5 #[limit0, length1] w = none) (h : f5 (R prim) limit0 length1 w = some r) : R prim 5 #[limit0, length1] w = some r := run_body Tryz.func5 (by kernel_rfl) hn (by rw [show anns 5 = f5.ann from rfl, f5.eq]; exact h)
theorem f6.run {prim : Prim} {limit0 length1 : Value} {w : World} {r : Value × World} (hn : prim.call 6 #[limit0, length1] w = none) (h : f6 (R prim) limit0 length1 w = some r) : R prim 6 #[limit0, length1] w = some r := run_body Tryz.func6 (by kernel_rfl) hn (by rw [show anns 6 = f6.ann from rfl, f6.eq]; exact h)
theorem f7.run {prim : Prim} {src0 : Value} {w : World} {r : Value × World} (hn : prim.call 7 #[src0] w = none) (h : f7 (R prim) src0 w = some r) : R prim 7 #[src0] w = some r := run_body Tryz.func7 (by kernel_rfl) hn (by rw [show anns 7 = f7.ann from rfl, f7.eq]; exact h)
theorem f8.run {prim : Prim} {src0 limit1 : Value} {w : World} {r : Value × World} (hn : prim.call 8 #[src0, limit1] w = none) (h : f8 (R prim) src0 limit1 w = some r) : R prim 8 #[src0, limit1] w = some r := run_body Tryz.func8 (by kernel_rfl) hn (by rw [show anns 8 = f8.ann from rfl, f8.eq]; exact h)
theorem f9.run {prim : Prim} {src0 n1 limit2 : Value} {w : World} {r : Value × World} (hn : prim.call 9 #[src0, n1, limit2] w = none) (h : f9 (R prim) src0 n1 limit2 w = some r) : R prim 9 #[src0, n1, limit2] w = some r := run_body Tryz.func9 (by kernel_rfl) hn (by rw [show anns 9 = f9.ann from rfl, f9.eq]; exact h)
theorem f10.run {prim : Prim} {src0 r1 limit2 : Value} {w : World} {r : Value × World} (hn : prim.call 10 #[src0, r1, limit2] w = none) (h : f10 (R prim) src0 r1 limit2 w = some r) : R prim 10 #[src0, r1, limit2] w = some r := run_body Tryz.func10 (by kernel_rfl) hn (by rw [show anns 10 = f10.ann from rfl, f10.eq]; exact h)
theorem f11.run {prim : Prim} {b0 : Value} {w : World} {r : Value × World} (hn : prim.call 11 #[b0] w = none) (h : f11 (R prim) b0 w = some r) : R prim 11 #[b0] w = some r := run_body Tryz.func11 (by kernel_rfl) hn (by rw [show anns 11 = f11.ann from rfl, f11.eq]; exact h)
theorem f13.run {prim : Prim} {t0 o1 A2 r3 : Value} {w : World} {r : Value × World} (hn : prim.call 13 #[t0, o1, A2, r3] w = none) (h : f13 (R prim) t0 o1 A2 r3 w = some r) : R prim 13 #[t0, o1, A2, r3] w = some r := run_body Tryz.func13 (by kernel_rfl) hn (by rw [show anns 13 = f13.ann from rfl, f13.eq]; exact h)
theorem f14.run {prim : Prim} {src0 limit1 asks2 : Value} {w : World} {r : Value × World} (hn : prim.call 14 #[src0, limit1, asks2] w = none) (h : f14 (R prim) src0 limit1 asks2 w = some r) : R prim 14 #[src0, limit1, asks2] w = some r := run_body Tryz.func14 (by kernel_rfl) hn (by rw [show anns 14 = f14.ann from rfl, f14.eq]; exact h)
theorem f163.run {prim : Prim} {s0 at1 n2 : Value} {w : World} {r : Value × World} (hn : prim.call 163 #[s0, at1, n2] w = none) (h : f163 (R prim) s0 at1 n2 w = some r) : R prim 163 #[s0, at1, n2] w = some r := run_body Tryz.func163 (by kernel_rfl) hn (by rw [show anns 163 = f163.ann from rfl, f163.eq]; exact h)
theorem f164.run {prim : Prim} {s0 : Value} {w : World} {r : Value × World} (hn : prim.call 164 #[s0] w = none) (h : f164 (R prim) s0 w = some r) : R prim 164 #[s0] w = some r := run_body Tryz.func164 (by kernel_rfl) hn (by rw [show anns 164 = f164.ann from rfl, f164.eq]; exact h)

/-! ### facts of the types -/
noncomputable def inf (t : Nat) : TypeInfo := (Tryz.prog.info? t).getD default
@[simp] theorem len34 (ty : TypeId) (a : Option Addr) (n c : Nat) : prun Tryz.prog (Builtin.len_ #[34] ty #[.slice a n c]) = some (.int .i64 n) := len_slice Tryz.underlying34 ty a n c
@[simp] theorem len37 (ty : TypeId) (a : Option Addr) (n c : Nat) : prun Tryz.prog (Builtin.len_ #[37] ty #[.slice a n c]) = some (.int .i64 n) := len_slice Tryz.underlying37 ty a n c
@[simp] theorem len43 (ty : TypeId) (a : Option Addr) (n c : Nat) : prun Tryz.prog (Builtin.len_ #[43] ty #[.slice a n c]) = some (.int .i64 n) := len_slice Tryz.underlying43 ty a n c
@[simp] theorem len53 (ty : TypeId) (a : Option Addr) (n c : Nat) : prun Tryz.prog (Builtin.len_ #[53] ty #[.slice a n c]) = some (.int .i64 n) := len_slice Tryz.underlying53 ty a n c
@[simp] theorem ld3 (a : Addr) (w : World) : rrun Tryz.prog (Instr.loadAt 3 (.pointer (some a))) w = w.cell? a := load_one Tryz.underlying3 (by kernel_rfl) a w
@[simp] theorem ld4 (a : Addr) (w : World) : rrun Tryz.prog (Instr.loadAt 4 (.pointer (some a))) w = w.cell? a := load_one Tryz.underlying4 (by kernel_rfl) a w
theorem inf27 : Tryz.prog.info? 27 = some (inf 27) := by kernel_rfl
theorem size27 : (inf 27).size = 4 := by kernel_rfl
theorem ld27 {a : Addr} {w : World} {v0 v1 v2 v3 : Value} (h0 : w.cell? (a.add 0) = some v0) (h1 : w.cell? (a.add 1) = some v1) (h2 : w.cell? (a.add 2) = some v2) (h3 : w.cell? (a.add 3) = some v3) : rrun Tryz.prog (Instr.loadAt 27 (.pointer (some a))) w = some (.agg #[v0, v1, v2, v3]) := load_agg (vs := [v0, v1, v2, v3]) inf27 (by kernel_rfl) (by rw [size27]; rfl) ⟨h0, h1, h2, h3, trivial⟩
theorem inf31 : Tryz.prog.info? 31 = some (inf 31) := by kernel_rfl
theorem size31 : (inf 31).size = 13 := by kernel_rfl
@[simp] theorem ld34 (a : Addr) (w : World) : rrun Tryz.prog (Instr.loadAt 34 (.pointer (some a))) w = w.cell? a := load_one Tryz.underlying34 (by kernel_rfl) a w
theorem inf36 : Tryz.prog.info? 36 = some (inf 36) := by kernel_rfl
theorem size36 : (inf 36).size = 5 := by kernel_rfl
theorem ld36 {a : Addr} {w : World} {v0 v1 v2 v3 v4 : Value} (h0 : w.cell? (a.add 0) = some v0) (h1 : w.cell? (a.add 1) = some v1) (h2 : w.cell? (a.add 2) = some v2) (h3 : w.cell? (a.add 3) = some v3) (h4 : w.cell? (a.add 4) = some v4) : rrun Tryz.prog (Instr.loadAt 36 (.pointer (some a))) w = some (.agg #[v0, v1, v2, v3, v4]) := load_agg (vs := [v0, v1, v2, v3, v4]) inf36 (by kernel_rfl) (by rw [size36]; rfl) ⟨h0, h1, h2, h3, h4, trivial⟩
@[simp] theorem ld38 (a : Addr) (w : World) : rrun Tryz.prog (Instr.loadAt 38 (.pointer (some a))) w = w.cell? a := load_one Tryz.underlying38 (by kernel_rfl) a w
theorem inf40 : Tryz.prog.info? 40 = some (inf 40) := by kernel_rfl
theorem size40 : (inf 40).size = 16 := by kernel_rfl
theorem inf48 : Tryz.prog.info? 48 = some (inf 48) := by kernel_rfl
theorem size48 : (inf 48).size = 4 := by kernel_rfl
theorem ld48 {a : Addr} {w : World} {v0 v1 v2 v3 : Value} (h0 : w.cell? (a.add 0) = some v0) (h1 : w.cell? (a.add 1) = some v1) (h2 : w.cell? (a.add 2) = some v2) (h3 : w.cell? (a.add 3) = some v3) : rrun Tryz.prog (Instr.loadAt 48 (.pointer (some a))) w = some (.agg #[v0, v1, v2, v3]) := load_agg (vs := [v0, v1, v2, v3]) inf48 (by kernel_rfl) (by rw [size48]; rfl) ⟨h0, h1, h2, h3, trivial⟩
@[simp] theorem ld53 (a : Addr) (w : World) : rrun Tryz.prog (Instr.loadAt 53 (.pointer (some a))) w = w.cell? a := load_one Tryz.underlying53 (by kernel_rfl) a w
@[simp] theorem ld60 (a : Addr) (w : World) : rrun Tryz.prog (Instr.loadAt 60 (.pointer (some a))) w = w.cell? a := load_one Tryz.underlying60 (by kernel_rfl) a w
theorem inf91 : Tryz.prog.info? 91 = some (inf 91) := by kernel_rfl
theorem size91 : (inf 91).size = 3 := by kernel_rfl
theorem ld91 {a : Addr} {w : World} {v0 v1 v2 : Value} (h0 : w.cell? (a.add 0) = some v0) (h1 : w.cell? (a.add 1) = some v1) (h2 : w.cell? (a.add 2) = some v2) : rrun Tryz.prog (Instr.loadAt 91 (.pointer (some a))) w = some (.agg #[v0, v1, v2]) := load_agg (vs := [v0, v1, v2]) inf91 (by kernel_rfl) (by rw [size91]; rfl) ⟨h0, h1, h2, trivial⟩
theorem inf3 : Tryz.prog.info? 3 = some (inf 3) := by kernel_rfl
theorem size3 : (inf 3).size = 1 := by kernel_rfl
theorem st3 {a : Addr} {w : World} {v u : Value} (hv : v.cells = #[v]) (ho : v.oneCell' = true) (hc : w.cell? a = some u) (hf : w.frozen? a = false) : erun Tryz.prog (Instr.storeAt 3 (.pointer (some a)) v) w = some ((), w.setCell a v) := store_one inf3 size3 hv ho hc hf
theorem inf34 : Tryz.prog.info? 34 = some (inf 34) := by kernel_rfl
theorem size34 : (inf 34).size = 1 := by kernel_rfl
theorem st34 {a : Addr} {w : World} {v u : Value} (hv : v.cells = #[v]) (ho : v.oneCell' = true) (hc : w.cell? a = some u) (hf : w.frozen? a = false) : erun Tryz.prog (Instr.storeAt 34 (.pointer (some a)) v) w = some ((), w.setCell a v) := store_one inf34 size34 hv ho hc hf
theorem inf38 : Tryz.prog.info? 38 = some (inf 38) := by kernel_rfl
theorem size38 : (inf 38).size = 1 := by kernel_rfl
theorem st38 {a : Addr} {w : World} {v u : Value} (hv : v.cells = #[v]) (ho : v.oneCell' = true) (hc : w.cell? a = some u) (hf : w.frozen? a = false) : erun Tryz.prog (Instr.storeAt 38 (.pointer (some a)) v) w = some ((), w.setCell a v) := store_one inf38 size38 hv ho hc hf
theorem inf62 : Tryz.prog.info? 62 = some (inf 62) := by kernel_rfl
theorem size62 : (inf 62).size = 1 := by kernel_rfl
theorem st62 {a : Addr} {w : World} {v u : Value} (hv : v.cells = #[v]) (ho : v.oneCell' = true) (hc : w.cell? a = some u) (hf : w.frozen? a = false) : erun Tryz.prog (Instr.storeAt 62 (.pointer (some a)) v) w = some ((), w.setCell a v) := store_one inf62 size62 hv ho hc hf
@[simp] theorem fa27_2 (a : Addr) : prun Tryz.prog (Instr.fieldAt 27 (.pointer (some a)) 2) = some (.pointer (some (a.add 2))) := id (by kernel_rfl)
@[simp] theorem fa27_3 (a : Addr) : prun Tryz.prog (Instr.fieldAt 27 (.pointer (some a)) 3) = some (.pointer (some (a.add 3))) := id (by kernel_rfl)
@[simp] theorem fa31_0 (a : Addr) : prun Tryz.prog (Instr.fieldAt 31 (.pointer (some a)) 0) = some (.pointer (some (a.add 0))) := id (by kernel_rfl)
@[simp] theorem fa31_6 (a : Addr) : prun Tryz.prog (Instr.fieldAt 31 (.pointer (some a)) 6) = some (.pointer (some (a.add 12))) := id (by kernel_rfl)
@[simp] theorem fa36_1 (a : Addr) : prun Tryz.prog (Instr.fieldAt 36 (.pointer (some a)) 1) = some (.pointer (some (a.add 4))) := id (by kernel_rfl)
@[simp] theorem fa40_2 (a : Addr) : prun Tryz.prog (Instr.fieldAt 40 (.pointer (some a)) 2) = some (.pointer (some (a.add 14))) := id (by kernel_rfl)
@[simp] theorem fa40_3 (a : Addr) : prun Tryz.prog (Instr.fieldAt 40 (.pointer (some a)) 3) = some (.pointer (some (a.add 15))) := id (by kernel_rfl)
@[simp] theorem fa48_2 (a : Addr) : prun Tryz.prog (Instr.fieldAt 48 (.pointer (some a)) 2) = some (.pointer (some (a.add 2))) := id (by kernel_rfl)
@[simp] theorem fa48_3 (a : Addr) : prun Tryz.prog (Instr.fieldAt 48 (.pointer (some a)) 3) = some (.pointer (some (a.add 3))) := id (by kernel_rfl)
@[simp] theorem fa65_1 (a : Addr) : prun Tryz.prog (Instr.fieldAt 65 (.pointer (some a)) 1) = some (.pointer (some (a.add 1))) := id (by kernel_rfl)
@[simp] theorem fa65_2 (a : Addr) : prun Tryz.prog (Instr.fieldAt 65 (.pointer (some a)) 2) = some (.pointer (some (a.add 2))) := id (by kernel_rfl)
@[simp] theorem fa65_4 (a : Addr) : prun Tryz.prog (Instr.fieldAt 65 (.pointer (some a)) 4) = some (.pointer (some (a.add 16))) := id (by kernel_rfl)
@[simp] theorem fa76_0 (a : Addr) : prun Tryz.prog (Instr.fieldAt 76 (.pointer (some a)) 0) = some (.pointer (some (a.add 0))) := id (by kernel_rfl)
theorem ix37 (a : Addr) (n c : Nat) (k : IntKind) (j : Int) (h0 : 0 ≤ j) (h1 : j < n) : prun Tryz.prog (Instr.indexAt 37 (.slice (some a) n c) (.int k j)) = some (.pointer (some (a.add (j.toNat * 1)))) := by
  have h := index_slice Tryz.underlying37 inf3 a n c k j h0 h1
  rwa [size3] at h
theorem ix43 (a : Addr) (n c : Nat) (k : IntKind) (j : Int) (h0 : 0 ≤ j) (h1 : j < n) : prun Tryz.prog (Instr.indexAt 43 (.slice (some a) n c) (.int k j)) = some (.pointer (some (a.add (j.toNat * 3)))) := by
  have h := index_slice Tryz.underlying43 inf91 a n c k j h0 h1
  rwa [size91] at h
theorem inf5 : Tryz.prog.info? 5 = some (inf 5) := by kernel_rfl
theorem size5 : (inf 5).size = 1 := by kernel_rfl
theorem sl53 (a : Option Addr) (n c : Nat) (lo hi mx : Option Value) (l h m : Nat) (hb : prun Tryz.prog (Instr.sliceBounds true n c lo hi mx) = some (l, h, m)) : prun Tryz.prog (Instr.sliceAt 53 (.slice a n c) lo hi mx) = some (.slice (if m = l then a else a.map (·.add (l * 1))) (h - l) (m - l)) := by
  have h := slice_at Tryz.underlying53 inf5 a n c lo hi mx l h m hb
  rwa [size5] at h
theorem inf87 : Tryz.prog.info? 87 = some (inf 87) := by kernel_rfl
theorem size87 : (inf 87).size = 1 := by kernel_rfl
theorem zero87 : (inf 87).zero = some (.slice none 0 0) := by kernel_rfl
theorem bytes87 : (inf 87).bytes = 24 := id (by kernel_rfl)
theorem ap34 {w : World} {base : Nat} {ty : TypeId} {v : Value} {n : Nat} {xs : List Value} (hown : w.ownsRow base 87 1 v n xs) {A : Option Addr} {m c : Nat} {news : List Value} (hl : news.length = m * 1) (hr : Rd w A news) (hnil : A = none → c = 0) (h1 : ∀ u ∈ news, u.oneCell' = true) (h63 : n + m ≤ maxLen) (hbytes : (n + m) * 24 ≤ 140737488355328) (hbase : base ≤ w.heap.size) :
    ∃ v' w', erun Tryz.prog (Builtin.append_ #[34, 34] ty #[v, .slice A m c]) w = some (v', w') ∧ w'.ownsRow base 87 1 v' (n + m) (xs ++ news) ∧ w.grownBy w' v.ownBlock := e_append Tryz.underlying34 inf87 zero87 size87 bytes87 rfl (by decide) hown hl hr hnil h1 h63 hbytes hbase
theorem inf72 : Tryz.prog.info? 72 = some (inf 72) := by kernel_rfl
theorem size72 : (inf 72).size = 1 := by kernel_rfl
theorem zero72 : (inf 72).zero = some (.int .i64 0) := by kernel_rfl
theorem bytes72 : (inf 72).bytes = 8 := id (by kernel_rfl)
theorem ap38 {w : World} {base : Nat} {ty : TypeId} {v : Value} {n : Nat} {xs : List Value} (hown : w.ownsRow base 72 1 v n xs) {A : Option Addr} {m c : Nat} {news : List Value} (hl : news.length = m * 1) (hr : Rd w A news) (hnil : A = none → c = 0) (h1 : ∀ u ∈ news, u.oneCell' = true) (h63 : n + m ≤ maxLen) (hbytes : (n + m) * 8 ≤ 140737488355328) (hbase : base ≤ w.heap.size) :
    ∃ v' w', erun Tryz.prog (Builtin.append_ #[38, 38] ty #[v, .slice A m c]) w = some (v', w') ∧ w'.ownsRow base 72 1 v' (n + m) (xs ++ news) ∧ w.grownBy w' v.ownBlock := e_append Tryz.underlying38 inf72 zero72 size72 bytes72 rfl (by decide) hown hl hr hnil h1 h63 hbytes hbase
theorem zero5 : (inf 5).zero = some (.int .u8 0) := by kernel_rfl
theorem bytes5 : (inf 5).bytes = 1 := id (by kernel_rfl)
theorem ap53 {w : World} {base : Nat} {ty : TypeId} {v : Value} {n : Nat} {xs : List Value} (hown : w.ownsRow base 5 1 v n xs) {A : Option Addr} {m c : Nat} {news : List Value} (hl : news.length = m * 1) (hr : Rd w A news) (hnil : A = none → c = 0) (h1 : ∀ u ∈ news, u.oneCell' = true) (h63 : n + m ≤ maxLen) (hbytes : (n + m) * 1 ≤ 140737488355328) (hbase : base ≤ w.heap.size) :
    ∃ v' w', erun Tryz.prog (Builtin.append_ #[53, 53] ty #[v, .slice A m c]) w = some (v', w') ∧ w'.ownsRow base 5 1 v' (n + m) (xs ++ news) ∧ w.grownBy w' v.ownBlock := e_append Tryz.underlying53 inf5 zero5 size5 bytes5 rfl (by decide) hown hl hr hnil h1 h63 hbytes hbase
@[simp] theorem bs34_0 (w : World) : erun Tryz.prog (Instr.buildSlice 34 0 #[]) w = some (.slice (some ⟨w.heap.size, 0, none⟩) 0 0, w.alloc (.cells #[] 87)) := id (by kernel_rfl)
@[simp] theorem bs38_0 (w : World) : erun Tryz.prog (Instr.buildSlice 38 0 #[]) w = some (.slice (some ⟨w.heap.size, 0, none⟩) 0 0, w.alloc (.cells #[] 72)) := id (by kernel_rfl)
@[simp] theorem bs53_0 (w : World) : erun Tryz.prog (Instr.buildSlice 53 0 #[]) w = some (.slice (some ⟨w.heap.size, 0, none⟩) 0 0, w.alloc (.cells #[] 5)) := id (by kernel_rfl)
theorem tx53_9 {w : World} {A : Option Addr} {c : Nat} {l : List UInt8} {n : Nat} (hn : l.length = n) (hr : Rd w A (bv l)) : rrun Tryz.prog (convert 53 9 (.slice A n c)) w = some (.string ⟨l.toArray⟩) := e_text Tryz.underlying53 Tryz.underlying5 Tryz.underlying9 hn hr
@[simp] theorem eql9_s (x y : Operand) (a b : ByteArray) : prun Tryz.prog (do eqGuard .eql 9 x y (.string a) (.string b); binOp .eql 9 (.string a) (.string b)) = some (.bool (a.toList == b.toList)) := id (by kernel_rfl)
@[simp] theorem eql51_some (x y : Operand) (u : TypeId) (v : Value) (w : World) : rrun Tryz.prog (do eqGuard .eql 51 x y (.iface u v) .nilIface; binOp .eql 51 (.iface u v) .nilIface) w = some (.bool false) := id (by kernel_rfl)
@[simp] theorem eql51_none (x : Operand) (c : Value) (w : World) : rrun Tryz.prog (do eqGuard .eql 51 x (.const c) .nilIface .nilIface; binOp .eql 51 .nilIface .nilIface) w = some (.bool true) := id (by cases x <;> kernel_rfl)
@[simp] theorem mi76 (x : Value) : prun Tryz.prog (Instr.makeInterface 76 x) = some (.iface 76 x) := id (by kernel_rfl)
end Go.Sh.YtnagdileofjkeaaGreatDoor
