/- The functions of the seat's program as plain ones over the layer 'Sh', written by a program of this session's own; no condition. -/
import Derived.Test.YtkghbcadnbojgaaGreatDoorProg
import Derived.Test.YtkghbcadnbojgaaGreatDoorShEq
import Derived.KernelRfl
namespace Go.Sh.YtkghbcadnbojgaaGreatDoor
open Go Go.Proofs
set_option linter.unusedVariables false
set_option maxRecDepth 100000

/-- dailies/dailieslaw19.CutsNames -/
def f3.ann : Ann := (.s .z (.s .z (.s .z (.s .z .z))))
noncomputable def f3 (call : CallF)  (W0 : World) : Option (Value × World) :=
  ((call 8 #[] W0).bind fun r3 =>
  (asB r3.1).bind fun b5 =>
  (if b5 = true then some ((Value.bool true), r3.2)
   else some ((Value.bool false), r3.2)).bind fun r7 =>
  (pickV r7.1 (Value.bool true) (Value.bool false)).bind fun v9 =>
  (pickV v9 (Value.bool true) (Value.bool false)).bind fun v11 =>
  (pickV v11 (Value.bool true) (Value.bool false)).bind fun v13 =>
  (pickV v13 (Value.bool true) (Value.bool false)).bind fun v15 =>
  (pickV v15 (Value.bool true) (Value.bool false)).bind fun v17 =>
  some (Res.ret [v17] r7.2)).bind Res.done
theorem f3.eq (call dfr : CallF)  (W0 : World) : aFun Tryz.prog call dfr Tryz.f3 f3.ann (ofArgs #[]) W0 = f3 call  W0 := by kernel_rfl

/-- dailies/dailieslaw19.CutsBlanks -/
def f5.ann : Ann := (.s .z (.s .z (.s .z (.s (.s .z (.c (.s .z .z) .z)) (.s .z (.s (.s .z (.c (.s .z .z) .z)) (.s .z (.s .z (.s .z .z)))))))))
noncomputable def f5 (call : CallF) (l0 : Value) (fill1 : Value) (W0 : World) : Option (Value × World) :=
  ((erun Tryz.prog (Instr.box 30 l0) W0).bind fun r2 =>
  (call 8 #[] r2.2).bind fun r11 =>
  (rrun Tryz.prog (Instr.loadAt 30 r2.1) r11.2).bind fun v12 =>
  (call 15 #[v12] r11.2).bind fun r13 =>
  (prun Tryz.prog (Op.unary .not r11.1)).bind fun v15 =>
  (asB v15).bind fun b16 =>
  (if b16 = false then (rrun Tryz.prog (do eqGuard .neq 32 (Operand.tmp 17) (Operand.const Value.nilIface) r13.1 Value.nilIface; binOp .neq 32 r13.1 Value.nilIface) r13.2).bind fun v18 =>
    some (v18, r13.2)
   else some ((Value.bool true), r13.2)).bind fun r19 =>
  (asB r19.1).bind fun c19 =>
  if c19 then
    some (Res.ret [r11.1] r19.2)
  else
  (rrun Tryz.prog (Instr.loadAt 30 r2.1) r19.2).bind fun v21 =>
  (call 17 #[v21] r19.2).bind fun r22 =>
  (call 16 #[r22.1, fill1] r22.2).bind fun r24 =>
  (prun Tryz.prog (Builtin.len_ #[9] 3 #[r24.1])).bind fun v26 =>
  (bin .gtr v26 (Value.int IntKind.i64 20000)).bind fun v27 =>
  (asB v27).bind fun c27 =>
  if c27 then
    some (Res.ret [(Value.bool true)] r24.2)
  else
  (call 9 #[r24.1] r24.2).bind fun r30 =>
  (prun Tryz.prog (Instr.extract r30.1 0)).bind fun v31 =>
  (prun Tryz.prog (Instr.extract r30.1 1)).bind fun v32 =>
  (erun Tryz.prog (Instr.alloc 30 true (.tuple #[])) r30.2).bind fun r8 =>
  (erun Tryz.prog (Instr.storeAt 30 r8.1 v31) r8.2).bind fun r =>
  (rrun Tryz.prog (Instr.loadAt 30 r8.1) r.2).bind fun v33 =>
  (rrun Tryz.prog (Instr.loadAt 30 r2.1) r.2).bind fun v34 =>
  (call 11 #[v33, v34] r.2).bind fun r35 =>
  (rrun Tryz.prog (do eqGuard .eql 32 (Operand.tmp 36) (Operand.const Value.nilIface) v32 Value.nilIface; binOp .eql 32 v32 Value.nilIface) r35.2).bind fun v37 =>
  (asB v37).bind fun b38 =>
  (if b38 = true then some (r35.1, r35.2)
   else some ((Value.bool false), r35.2)).bind fun r40 =>
  some (Res.ret [r40.1] r40.2)).bind Res.done
theorem f5.eq (call dfr : CallF) (l0 : Value) (fill1 : Value) (W0 : World) : aFun Tryz.prog call dfr Tryz.f5 f5.ann (ofArgs #[l0, fill1]) W0 = f5 call l0 fill1 W0 := by kernel_rfl

/-- dailies/dailieslaw19.CutsLengths -/
def f6.ann : Ann := (.s .z (.s .z (.s .z (.s .z (.s (.s .z (.c (.s .z .z) .z)) (.s (.s .z (.c (.s .z .z) .z)) (.s .z (.s (.s .z (.b [1, 2, 7, 9] (.l [1, 2, 7, 9, 10] (.s (.s .z (.c .z .z)) (.s (.b [1, 2, 7, 9, 10] (.s .z (.s (.s .z (.j [1, 2, 7, 9, 10, 11] .z .z)) (.s (.s .z (.c (.s .z .z) .z)) .z)))) .z))))) (.s (.s .z (.c (.s .z .z) .z)) (.s (.s .z (.c (.s .z .z) .z)) (.s .z (.s .z (.s .z (.s .z (.s .z (.s .z .z))))))))))))))))
noncomputable def f6.l0 (call : CallF) (vs : List Value) (W1 : World) : Option Res :=
  let o1_1 := nth vs 0
  let A2 := nth vs 1
  let v7 := nth vs 2
  let v9 := nth vs 3
  let v10 := nth vs 4
  (prun Tryz.prog (Instr.fieldAt 30 A2 2)).bind fun v38 =>
  (rrun Tryz.prog (Instr.loadAt 28 v38) W1).bind fun v39 =>
  (prun Tryz.prog (Builtin.len_ #[28] 3 #[v39])).bind fun v40 =>
  (bin .lss v10 v40).bind fun v41 =>
  (asB v41).bind fun c41 =>
  if c41 then
    ((prun Tryz.prog (Instr.fieldAt 30 A2 2)).bind fun v44 =>
    (rrun Tryz.prog (Instr.loadAt 28 v44) W1.drew).bind fun v45 =>
    (prun Tryz.prog (Instr.indexAt 28 v45 v10)).bind fun v47 =>
    (prun Tryz.prog (Instr.fieldAt 51 v47 2)).bind fun v48 =>
    (rrun Tryz.prog (Instr.loadAt 3 v48) W1.drew).bind fun v49 =>
    (prun Tryz.prog (Instr.fieldAt 30 A2 2)).bind fun v50 =>
    (rrun Tryz.prog (Instr.loadAt 28 v50) W1.drew).bind fun v51 =>
    (prun Tryz.prog (Instr.indexAt 28 v51 v10)).bind fun v53 =>
    (prun Tryz.prog (Instr.fieldAt 51 v53 1)).bind fun v54 =>
    (rrun Tryz.prog (Instr.loadAt 3 v54) W1.drew).bind fun v55 =>
    (bin .sub v49 v55).bind fun v56 =>
    (bin .add v10 (Value.int IntKind.i64 1)).bind fun v58 =>
    (prun Tryz.prog (Instr.fieldAt 30 A2 2)).bind fun v59 =>
    (rrun Tryz.prog (Instr.loadAt 28 v59) W1.drew).bind fun v60 =>
    (prun Tryz.prog (Builtin.len_ #[28] 3 #[v60])).bind fun v61 =>
    (bin .lss v58 v61).bind fun v62 =>
    (asB v62).bind fun c62 =>
    (if c62 then
      (prun Tryz.prog (Instr.fieldAt 30 A2 2)).bind fun v64 =>
      (rrun Tryz.prog (Instr.loadAt 28 v64) W1.drew).bind fun v65 =>
      (bin .add v10 (Value.int IntKind.i64 1)).bind fun v67 =>
      (prun Tryz.prog (Instr.indexAt 28 v65 v67)).bind fun v68 =>
      (prun Tryz.prog (Instr.fieldAt 51 v68 3)).bind fun v69 =>
      (rrun Tryz.prog (Instr.loadAt 3 v69) W1.drew).bind fun v70 =>
      (bin .sub v56 v70).bind fun v71 =>
      some (Res.norm [o1_1, A2, v7, v9, v10, v71] W1.drew)
     else
      some (Res.norm [o1_1, A2, v7, v9, v10, v56] W1.drew)).bind fun (r : Res) => r.cont fun vs_1 W2 =>
    let o1_2 := nth vs_1 0
    let A2_1 := nth vs_1 1
    let v7_1 := nth vs_1 2
    let v9_1 := nth vs_1 3
    let v10_1 := nth vs_1 4
    let v11 := nth vs_1 5
    (prun Tryz.prog (Instr.fieldAt 30 A2_1 2)).bind fun v73 =>
    (rrun Tryz.prog (Instr.loadAt 28 v73) W2).bind fun v74 =>
    (prun Tryz.prog (Instr.indexAt 28 v74 v10_1)).bind fun v76 =>
    (prun Tryz.prog (Instr.fieldAt 51 v76 3)).bind fun v77 =>
    (rrun Tryz.prog (Instr.loadAt 3 v77) W2).bind fun v78 =>
    (bin .lss v11 v78).bind fun v79 =>
    (asB v79).bind fun b80 =>
    (if b80 = false then (bin .lss v11 (Value.int IntKind.i64 0)).bind fun v82 =>
      some (v82, W2)
     else some ((Value.bool true), W2)).bind fun r83 =>
    (asB r83.1).bind fun c83 =>
    if c83 then
      some (Res.ret [(Value.bool false)] r83.2)
    else
    (bin .add v9_1 v11).bind fun v86 =>
    some (Res.norm [o1_2, A2_1, v7_1, v86, v10_1] r83.2)).bind fun (r : Res) => (r.unblock 1).cont fun vs_2 W3 =>
    let o1_3 := nth vs_2 0
    let A2_2 := nth vs_2 1
    let v7_2 := nth vs_2 2
    let v9_2 := nth vs_2 3
    let v10_2 := nth vs_2 4
    (bin .add v10_2 (Value.int IntKind.i64 1)).bind fun v43 =>
    some (Res.norm [o1_3, A2_2, v7_2, v9_2, v43] W3)
  else
  some (Res.exit 0 [o1_1, A2, v7, v9] W1)
noncomputable def f6 (call : CallF) (t0 : Value) (o1 : Value) (W0 : World) : Option (Value × World) :=
  ((erun Tryz.prog (Instr.box 30 t0) W0).bind fun r2 =>
  (call 8 #[] r2.2).bind fun r16 =>
  (rrun Tryz.prog (Instr.loadAt 30 r2.1) r16.2).bind fun v17 =>
  (call 15 #[v17] r16.2).bind fun r18 =>
  (rrun Tryz.prog (Instr.loadAt 30 r2.1) r18.2).bind fun v20 =>
  (call 18 #[v20] r18.2).bind fun r21 =>
  (prun Tryz.prog (Instr.extract r21.1 0)).bind fun v22 =>
  (prun Tryz.prog (Instr.extract r21.1 1)).bind fun v23 =>
  (prun Tryz.prog (Op.unary .not r16.1)).bind fun v25 =>
  (asB v25).bind fun b26 =>
  (if b26 = false then (rrun Tryz.prog (do eqGuard .eql 32 (Operand.tmp 27) (Operand.const Value.nilIface) r18.1 Value.nilIface; binOp .eql 32 r18.1 Value.nilIface) r21.2.drew).bind fun v28 =>
    (rrun Tryz.prog (do eqGuard .eql 32 (Operand.tmp 29) (Operand.const Value.nilIface) v23 Value.nilIface; binOp .eql 32 v23 Value.nilIface) r21.2.drew).bind fun v30 =>
    (prun Tryz.prog (do eqGuard .neq 4 (Operand.tmp 28) (Operand.tmp 30) v28 v30; binOp .neq 4 v28 v30)).bind fun v31 =>
    some (v31, r21.2.drew)
   else some ((Value.bool true), r21.2.drew)).bind fun r32 =>
  (asB r32.1).bind fun c32 =>
  if c32 then
    some (Res.ret [(Value.bool false)] r32.2)
  else
  (rrun Tryz.prog (do eqGuard .neq 32 (Operand.tmp 33) (Operand.const Value.nilIface) v23 Value.nilIface; binOp .neq 32 v23 Value.nilIface) r32.2).bind fun v34 =>
  (asB v34).bind fun c34 =>
  if c34 then
    (bin .eql v22 (Value.int IntKind.i64 0)).bind fun v36 =>
    some (Res.ret [v36] r32.2)
  else
  (iter (f6.l0 call) [o1, r2.1, v22, (Value.int IntKind.i64 0), (Value.int IntKind.i64 0)] r32.2).bind fun (r : Res) => (r.unblock 0).cont fun vs_3 W4 =>
  let o1_4 := nth vs_3 0
  let A2_3 := nth vs_3 1
  let v7_3 := nth vs_3 2
  let v9_3 := nth vs_3 3
  (bin .neq v9_3 v7_3).bind fun v89 =>
  (asB v89).bind fun b90 =>
  (if b90 = false then (bin .eql v7_3 (Value.int IntKind.i64 0)).bind fun v92 =>
    (prun Tryz.prog (Instr.fieldAt 30 A2_3 2)).bind fun v93 =>
    (rrun Tryz.prog (Instr.loadAt 28 v93) W4).bind fun v94 =>
    (prun Tryz.prog (Builtin.len_ #[28] 3 #[v94])).bind fun v95 =>
    (bin .eql v95 (Value.int IntKind.i64 0)).bind fun v96 =>
    (prun Tryz.prog (do eqGuard .neq 4 (Operand.tmp 92) (Operand.tmp 96) v92 v96; binOp .neq 4 v92 v96)).bind fun v97 =>
    some (v97, W4)
   else some ((Value.bool true), W4)).bind fun r98 =>
  (asB r98.1).bind fun c98 =>
  if c98 then
    some (Res.ret [(Value.bool false)] r98.2)
  else
  (prun Tryz.prog (Instr.fieldAt 30 A2_3 2)).bind fun v99 =>
  (rrun Tryz.prog (Instr.loadAt 28 v99) r98.2).bind fun v100 =>
  (prun Tryz.prog (Builtin.len_ #[28] 3 #[v100])).bind fun v101 =>
  (bin .lss v101 (Value.int IntKind.i64 2)).bind fun v102 =>
  (asB v102).bind fun c102 =>
  if c102 then
    some (Res.ret [(Value.bool true)] r98.2)
  else
  (prun Tryz.prog (Instr.fieldAt 30 A2_3 2)).bind fun v104 =>
  (rrun Tryz.prog (Instr.loadAt 28 v104) r98.2).bind fun v105 =>
  (prun Tryz.prog (Builtin.len_ #[28] 3 #[v105])).bind fun v106 =>
  (bin .sub v106 (Value.int IntKind.i64 1)).bind fun v107 =>
  (call 19 #[o1_4, v107] r98.2).bind fun r108 =>
  (bin .add (Value.int IntKind.i64 1) r108.1).bind fun v109 =>
  (erun Tryz.prog (Instr.buildSlice 28 0 #[]) r108.2).bind fun r110 =>
  (prun Tryz.prog (Instr.fieldAt 30 A2_3 2)).bind fun v111 =>
  (rrun Tryz.prog (Instr.loadAt 28 v111) r110.2).bind fun v112 =>
  (erun Tryz.prog (Builtin.append_ #[28, 28] 28 #[r110.1, v112]) r110.2).bind fun r113 =>
  (prun Tryz.prog (Instr.indexAt 28 r113.1 v109)).bind fun v116 =>
  (prun Tryz.prog (Instr.fieldAt 51 v116 2)).bind fun v117 =>
  (rrun Tryz.prog (Instr.loadAt 3 v117) r113.2.drew).bind fun v118 =>
  (prun Tryz.prog (Instr.indexAt 28 r113.1 v109)).bind fun v121 =>
  (prun Tryz.prog (Instr.fieldAt 51 v121 1)).bind fun v122 =>
  (rrun Tryz.prog (Instr.loadAt 3 v122) r113.2.drew).bind fun v123 =>
  (bin .sub v118 v123).bind fun v124 =>
  (bin .sub v109 (Value.int IntKind.i64 1)).bind fun v127 =>
  (prun Tryz.prog (Instr.indexAt 28 r113.1 v127)).bind fun v128 =>
  (prun Tryz.prog (Instr.fieldAt 51 v128 2)).bind fun v129 =>
  (rrun Tryz.prog (Instr.loadAt 3 v129) r113.2.drew).bind fun v130 =>
  (bin .sub v109 (Value.int IntKind.i64 1)).bind fun v133 =>
  (prun Tryz.prog (Instr.indexAt 28 r113.1 v133)).bind fun v134 =>
  (prun Tryz.prog (Instr.fieldAt 51 v134 1)).bind fun v135 =>
  (rrun Tryz.prog (Instr.loadAt 3 v135) r113.2.drew).bind fun v136 =>
  (bin .sub v130 v136).bind fun v137 =>
  (bin .sub v109 (Value.int IntKind.i64 1)).bind fun v140 =>
  (prun Tryz.prog (Instr.indexAt 28 r113.1 v140)).bind fun v141 =>
  (prun Tryz.prog (Instr.fieldAt 51 v141 3)).bind fun v142 =>
  (rrun Tryz.prog (Instr.loadAt 3 v142) r113.2.drew).bind fun v143 =>
  (bin .sub v137 v143).bind fun v144 =>
  (prun Tryz.prog (Builtin.min_ #[3, 3, 3] 3 #[(Value.int IntKind.i64 100), v124, v144])).bind fun v145 =>
  (bin .add v145 (Value.int IntKind.i64 1)).bind fun v149 =>
  (prun Tryz.prog (Instr.indexAt 28 r113.1 v109)).bind fun v150 =>
  (prun Tryz.prog (Instr.fieldAt 51 v150 3)).bind fun v151 =>
  (erun Tryz.prog (Instr.storeAt 3 v151 v149) r113.2.drew).bind fun r =>
  (prun Tryz.prog (Instr.fieldAt 30 A2_3 0)).bind fun v152 =>
  (rrun Tryz.prog (Instr.loadAt 9 v152) r.2).bind fun v153 =>
  (prun Tryz.prog (Instr.fieldAt 30 A2_3 1)).bind fun v154 =>
  (rrun Tryz.prog (Instr.loadAt 27 v154) r.2).bind fun v155 =>
  (prun Tryz.prog (Instr.build 30 #[(0, v153), (1, v155), (2, r113.1)])).bind fun v157 =>
  (call 15 #[v157] r.2).bind fun r158 =>
  (call 20 #[r158.1, v109, (Value.int IntKind.i64 195)] r158.2).bind fun r161 =>
  some (Res.ret [r161.1] r161.2)).bind Res.done
theorem f6.eq (call dfr : CallF) (t0 : Value) (o1 : Value) (W0 : World) : aFun Tryz.prog call dfr Tryz.f6 f6.ann (ofArgs #[t0, o1]) W0 = f6 call t0 o1 W0 := by kernel_rfl

/-- dailies/dailieslaw19.CutsBack -/
def f7.ann : Ann := (.s .z (.s .z (.s (.s .z (.c (.s .z .z) .z)) (.s .z (.s .z (.s (.s .z (.c (.s .z .z) .z)) (.s (.s .z (.j [1] (.s .z (.s .z (.s (.s .z (.c (.s .z .z) .z)) (.s .z (.s .z (.c (.s .z .z) .z)))))) (.s .z (.s .z (.c (.s .z .z) .z))))) (.s .z (.s (.s .z (.c (.s .z .z) .z)) (.s .z (.s (.s .z (.c (.s .z .z) .z)) (.s .z (.s (.s .z (.c (.s .z .z) .z)) (.s .z (.s .z (.s .z .z))))))))))))))))
noncomputable def f7 (call : CallF) (l0 : Value) (s1 : Value) (W0 : World) : Option (Value × World) :=
  ((erun Tryz.prog (Instr.box 30 l0) W0).bind fun r2 =>
  (call 8 #[] r2.2).bind fun r23 =>
  (prun Tryz.prog (Op.unary .not r23.1)).bind fun v25 =>
  (asB v25).bind fun c25 =>
  if c25 then
    some (Res.ret [(Value.bool false)] r23.2)
  else
  (rrun Tryz.prog (Instr.loadAt 30 r2.1) r23.2).bind fun v27 =>
  (call 21 #[v27] r23.2).bind fun r28 =>
  (prun Tryz.prog (Instr.extract r28.1 0)).bind fun v29 =>
  (prun Tryz.prog (Instr.extract r28.1 1)).bind fun v30 =>
  (rrun Tryz.prog (Instr.loadAt 30 r2.1) r28.2).bind fun v31 =>
  (call 15 #[v31] r28.2).bind fun r32 =>
  (rrun Tryz.prog (do eqGuard .neq 32 (Operand.tmp 33) (Operand.const Value.nilIface) r32.1 Value.nilIface; binOp .neq 32 r32.1 Value.nilIface) r32.2).bind fun v34 =>
  (asB v34).bind fun c34 =>
  if c34 then
    (rrun Tryz.prog (do eqGuard .neq 32 (Operand.tmp 35) (Operand.const Value.nilIface) v30 Value.nilIface; binOp .neq 32 v30 Value.nilIface) r32.2).bind fun v36 =>
    (asB v36).bind fun b37 =>
    (if b37 = true then (prun Tryz.prog (do eqGuard .eql 9 (Operand.tmp 38) (Operand.const (Value.string { data := #[] })) v29 (Value.string { data := #[] }); binOp .eql 9 v29 (Value.string { data := #[] }))).bind fun v39 =>
      some (v39, r32.2)
     else some ((Value.bool false), r32.2)).bind fun r40 =>
    some (Res.ret [r40.1] r40.2)
  else
  (rrun Tryz.prog (do eqGuard .eql 32 (Operand.tmp 41) (Operand.const Value.nilIface) v30 Value.nilIface; binOp .eql 32 v30 Value.nilIface) r32.2).bind fun v42 =>
  (asB v42).bind fun c42 =>
  (if c42 then
    (call 9 #[v29] r32.2).bind fun r45 =>
    (prun Tryz.prog (Instr.extract r45.1 0)).bind fun v46 =>
    (prun Tryz.prog (Instr.extract r45.1 1)).bind fun v47 =>
    (erun Tryz.prog (Instr.alloc 30 true (.tuple #[])) r45.2).bind fun r9 =>
    (erun Tryz.prog (Instr.storeAt 30 r9.1 v46) r9.2).bind fun r =>
    (rrun Tryz.prog (Instr.loadAt 30 r9.1) r.2).bind fun v48 =>
    (rrun Tryz.prog (Instr.loadAt 30 r2.1) r.2).bind fun v49 =>
    (call 11 #[v48, v49] r.2).bind fun r50 =>
    (rrun Tryz.prog (do eqGuard .neq 32 (Operand.tmp 51) (Operand.const Value.nilIface) v47 Value.nilIface; binOp .neq 32 v47 Value.nilIface) r50.2).bind fun v52 =>
    (asB v52).bind fun b53 =>
    (if b53 = false then (prun Tryz.prog (Op.unary .not r50.1)).bind fun v55 =>
      some (v55, r50.2)
     else some ((Value.bool true), r50.2)).bind fun r56 =>
    (asB r56.1).bind fun c56 =>
    if c56 then
      some (Res.ret [(Value.bool false)] r56.2)
    else
    (rrun Tryz.prog (Instr.loadAt 30 r9.1) r56.2).bind fun v58 =>
    (call 21 #[v58] r56.2).bind fun r59 =>
    (prun Tryz.prog (Instr.extract r59.1 0)).bind fun v60 =>
    (prun Tryz.prog (Instr.extract r59.1 1)).bind fun v61 =>
    (rrun Tryz.prog (do eqGuard .neq 32 (Operand.tmp 62) (Operand.const Value.nilIface) v61 Value.nilIface; binOp .neq 32 v61 Value.nilIface) r59.2).bind fun v63 =>
    (asB v63).bind fun b64 =>
    (if b64 = false then (prun Tryz.prog (do eqGuard .neq 9 (Operand.tmp 65) (Operand.tmp 66) v60 v29; binOp .neq 9 v60 v29)).bind fun v67 =>
      some (v67, r59.2)
     else some ((Value.bool true), r59.2)).bind fun r68 =>
    (asB r68.1).bind fun c68 =>
    if c68 then
      some (Res.ret [(Value.bool false)] r68.2)
    else
    some (Res.norm [s1] r68.2)
   else
    (prun Tryz.prog (Instr.makeInterface 35 (Value.int IntKind.i64 191))).bind fun v70 =>
    (call 22 #[v30, v70] r32.2).bind fun r71 =>
    (prun Tryz.prog (Op.unary .not r71.1)).bind fun v73 =>
    (asB v73).bind fun c73 =>
    if c73 then
      some (Res.ret [(Value.bool false)] r71.2)
    else
    some (Res.norm [s1] r71.2)).bind fun (r : Res) => r.cont fun vs W1 =>
  let s1_1 := nth vs 0
  (call 9 #[s1_1] W1).bind fun r76 =>
  (prun Tryz.prog (Instr.extract r76.1 0)).bind fun v77 =>
  (prun Tryz.prog (Instr.extract r76.1 1)).bind fun v78 =>
  (erun Tryz.prog (Instr.alloc 30 true (.tuple #[])) r76.2).bind fun r15 =>
  (erun Tryz.prog (Instr.storeAt 30 r15.1 v77) r15.2).bind fun r_1 =>
  (rrun Tryz.prog (do eqGuard .neq 32 (Operand.tmp 79) (Operand.const Value.nilIface) v78 Value.nilIface; binOp .neq 32 v78 Value.nilIface) r_1.2).bind fun v80 =>
  (asB v80).bind fun c80 =>
  if c80 then
    (prun Tryz.prog (Instr.fieldAt 30 r15.1 2)).bind fun v81 =>
    (rrun Tryz.prog (Instr.loadAt 28 v81) r_1.2).bind fun v82 =>
    (prun Tryz.prog (Builtin.len_ #[28] 3 #[v82])).bind fun v83 =>
    (bin .eql v83 (Value.int IntKind.i64 0)).bind fun v84 =>
    (asB v84).bind fun b85 =>
    (if b85 = true then (prun Tryz.prog (Instr.fieldAt 30 r15.1 0)).bind fun v86 =>
      (rrun Tryz.prog (Instr.loadAt 9 v86) r_1.2).bind fun v87 =>
      (prun Tryz.prog (do eqGuard .eql 9 (Operand.tmp 87) (Operand.const (Value.string { data := #[] })) v87 (Value.string { data := #[] }); binOp .eql 9 v87 (Value.string { data := #[] }))).bind fun v88 =>
      some (v88, r_1.2)
     else some ((Value.bool false), r_1.2)).bind fun r89 =>
    (asB r89.1).bind fun b90 =>
    (if b90 = true then (prun Tryz.prog (Instr.fieldAt 30 r15.1 1)).bind fun v91 =>
      (rrun Tryz.prog (Instr.loadAt 27 v91) r89.2).bind fun v92 =>
      (bin .eql v92 (Value.int IntKind.i64 0)).bind fun v93 =>
      some (v93, r89.2)
     else some ((Value.bool false), r89.2)).bind fun r94 =>
    some (Res.ret [r94.1] r94.2)
  else
  (rrun Tryz.prog (Instr.loadAt 30 r15.1) r_1.2).bind fun v95 =>
  (call 15 #[v95] r_1.2).bind fun r96 =>
  (rrun Tryz.prog (do eqGuard .neq 32 (Operand.tmp 97) (Operand.const Value.nilIface) r96.1 Value.nilIface; binOp .neq 32 r96.1 Value.nilIface) r96.2).bind fun v98 =>
  (asB v98).bind fun c98 =>
  if c98 then
    some (Res.ret [(Value.bool false)] r96.2)
  else
  (rrun Tryz.prog (Instr.loadAt 30 r15.1) r96.2).bind fun v100 =>
  (call 21 #[v100] r96.2).bind fun r101 =>
  (prun Tryz.prog (Instr.extract r101.1 0)).bind fun v102 =>
  (prun Tryz.prog (Instr.extract r101.1 1)).bind fun v103 =>
  (rrun Tryz.prog (do eqGuard .neq 32 (Operand.tmp 104) (Operand.const Value.nilIface) v103 Value.nilIface; binOp .neq 32 v103 Value.nilIface) r101.2).bind fun v105 =>
  (asB v105).bind fun c105 =>
  if c105 then
    (prun Tryz.prog (Instr.makeInterface 35 (Value.int IntKind.i64 191))).bind fun v107 =>
    (call 22 #[v103, v107] r101.2).bind fun r108 =>
    some (Res.ret [r108.1] r108.2)
  else
  (call 9 #[v102] r101.2).bind fun r111 =>
  (prun Tryz.prog (Instr.extract r111.1 0)).bind fun v112 =>
  (prun Tryz.prog (Instr.extract r111.1 1)).bind fun v113 =>
  (erun Tryz.prog (Instr.alloc 30 true (.tuple #[])) r111.2).bind fun r20 =>
  (erun Tryz.prog (Instr.storeAt 30 r20.1 v112) r20.2).bind fun r_2 =>
  (rrun Tryz.prog (Instr.loadAt 30 r20.1) r_2.2).bind fun v114 =>
  (rrun Tryz.prog (Instr.loadAt 30 r15.1) r_2.2).bind fun v115 =>
  (call 11 #[v114, v115] r_2.2).bind fun r116 =>
  (rrun Tryz.prog (do eqGuard .eql 32 (Operand.tmp 117) (Operand.const Value.nilIface) v113 Value.nilIface; binOp .eql 32 v113 Value.nilIface) r116.2).bind fun v118 =>
  (asB v118).bind fun b119 =>
  (if b119 = true then some (r116.1, r116.2)
   else some ((Value.bool false), r116.2)).bind fun r121 =>
  some (Res.ret [r121.1] r121.2)).bind Res.done
theorem f7.eq (call dfr : CallF) (l0 : Value) (s1 : Value) (W0 : World) : aFun Tryz.prog call dfr Tryz.f7 f7.ann (ofArgs #[l0, s1]) W0 = f7 call l0 s1 W0 := by kernel_rfl

/-- dailies/dailieslaw19.alive -/
def f8.ann : Ann := (.s .z (.s .z (.s (.s .z (.c (.s .z .z) .z)) (.s .z (.s .z .z)))))
noncomputable def f8 (call : CallF)  (W0 : World) : Option (Value × World) :=
  ((call 9 #[(Value.string { data := #[108, 105, 115, 116, 32, 50, 53, 32, 34, 111, 110, 101, 34, 10, 99, 117, 116, 32, 97, 32, 48, 48, 58, 48, 48, 58, 48, 49, 58, 48, 48, 32, 48, 48, 58, 48, 48, 58, 48, 50, 58, 48, 48] })] W0).bind fun r6 =>
  (prun Tryz.prog (Instr.extract r6.1 0)).bind fun v7 =>
  (prun Tryz.prog (Instr.extract r6.1 1)).bind fun v8 =>
  (erun Tryz.prog (Instr.alloc 30 true (.tuple #[])) r6.2).bind fun r1 =>
  (erun Tryz.prog (Instr.storeAt 30 r1.1 v7) r1.2).bind fun r =>
  (rrun Tryz.prog (do eqGuard .neq 32 (Operand.tmp 9) (Operand.const Value.nilIface) v8 Value.nilIface; binOp .neq 32 v8 Value.nilIface) r.2).bind fun v10 =>
  (asB v10).bind fun b11 =>
  (if b11 = false then (prun Tryz.prog (Instr.fieldAt 30 r1.1 0)).bind fun v12 =>
    (rrun Tryz.prog (Instr.loadAt 9 v12) r.2).bind fun v13 =>
    (prun Tryz.prog (do eqGuard .neq 9 (Operand.tmp 13) (Operand.const (Value.string { data := #[111, 110, 101] })) v13 (Value.string { data := #[111, 110, 101] }); binOp .neq 9 v13 (Value.string { data := #[111, 110, 101] }))).bind fun v14 =>
    some (v14, r.2)
   else some ((Value.bool true), r.2)).bind fun r15 =>
  (asB r15.1).bind fun b16 =>
  (if b16 = false then (prun Tryz.prog (Instr.fieldAt 30 r1.1 1)).bind fun v17 =>
    (rrun Tryz.prog (Instr.loadAt 27 v17) r15.2).bind fun v18 =>
    (bin .neq v18 (Value.int IntKind.i64 2)).bind fun v19 =>
    some (v19, r15.2)
   else some ((Value.bool true), r15.2)).bind fun r20 =>
  (asB r20.1).bind fun b21 =>
  (if b21 = false then (prun Tryz.prog (Instr.fieldAt 30 r1.1 2)).bind fun v22 =>
    (rrun Tryz.prog (Instr.loadAt 28 v22) r20.2).bind fun v23 =>
    (prun Tryz.prog (Builtin.len_ #[28] 3 #[v23])).bind fun v24 =>
    (bin .neq v24 (Value.int IntKind.i64 1)).bind fun v25 =>
    some (v25, r20.2)
   else some ((Value.bool true), r20.2)).bind fun r26 =>
  (asB r26.1).bind fun c26 =>
  if c26 then
    some (Res.ret [(Value.bool false)] r26.2)
  else
  (rrun Tryz.prog (Instr.loadAt 30 r1.1) r26.2).bind fun v28 =>
  (call 18 #[v28] r26.2).bind fun r29 =>
  (prun Tryz.prog (Instr.extract r29.1 0)).bind fun v30 =>
  (prun Tryz.prog (Instr.extract r29.1 1)).bind fun v31 =>
  (rrun Tryz.prog (do eqGuard .eql 32 (Operand.tmp 32) (Operand.const Value.nilIface) v31 Value.nilIface; binOp .eql 32 v31 Value.nilIface) r29.2).bind fun v33 =>
  (asB v33).bind fun b34 =>
  (if b34 = true then (bin .eql v30 (Value.int IntKind.i64 25)).bind fun v36 =>
    some (v36, r29.2)
   else some ((Value.bool false), r29.2)).bind fun r37 =>
  (asB r37.1).bind fun b38 =>
  (if b38 = true then (prun Tryz.prog (Instr.fieldAt 30 r1.1 2)).bind fun v39 =>
    (rrun Tryz.prog (Instr.loadAt 28 v39) r37.2).bind fun v40 =>
    (prun Tryz.prog (Instr.indexAt 28 v40 (Value.int IntKind.i64 0))).bind fun v41 =>
    (rrun Tryz.prog (Instr.loadAt 51 v41) r37.2).bind fun v42 =>
    (prun Tryz.prog (Instr.build 51 #[(0, (Value.string { data := #[97] })), (1, (Value.int IntKind.i64 25)), (2, (Value.int IntKind.i64 50))])).bind fun v43 =>
    (rrun Tryz.prog (do eqGuard .eql 51 (Operand.tmp 42) (Operand.tmp 43) v42 v43; binOp .eql 51 v42 v43) r37.2).bind fun v44 =>
    some (v44, r37.2)
   else some ((Value.bool false), r37.2)).bind fun r45 =>
  some (Res.ret [r45.1] r45.2)).bind Res.done
theorem f8.eq (call dfr : CallF)  (W0 : World) : aFun Tryz.prog call dfr Tryz.f8 f8.ann (ofArgs #[]) W0 = f8 call  W0 := by kernel_rfl

/-- dailies/cuts.Parse -/
def f9.ann : Ann := (.s .z (.s (.s .z (.c (.s .z .z) .z)) (.s (.s .z (.s .z (.c (.s .z .z) .z))) (.s .z (.s .z (.s (.s .z (.b [0, 2, 5, 6] (.l [0, 2, 5, 6, 7] (.s (.s .z (.c .z .z)) (.b [0, 2, 5, 6, 7] (.s .z (.s (.s .z (.j [0, 2, 5, 6, 7, 8] .z .z)) (.s .z (.s .z (.s .z (.s (.s .z (.c .z .z)) (.s .z (.s (.s .z (.j [0, 2, 5, 6, 7, 10] (.s .z .z) .z)) (.s .z (.c (.s .z .z) .z))))))))))))))) (.s (.s .z (.c (.s .z .z) .z)) (.s .z .z))))))))
noncomputable def f9.l0 (call : CallF) (vs : List Value) (W1 : World) : Option Res :=
  let s0_1 := nth vs 0
  let v2 := nth vs 1
  let l5 := nth vs 2
  let begun6 := nth vs 3
  let at7 := nth vs 4
  (prun Tryz.prog (Builtin.len_ #[9] 3 #[s0_1])).bind fun v25 =>
  (bin .lss at7 v25).bind fun v26 =>
  (asB v26).bind fun c26 =>
  if c26 then
    ((prun Tryz.prog (Instr.sliceAt 9 s0_1 (some at7) none none)).bind fun v30 =>
    (call 25 #[v30, (Value.int IntKind.u8 10)] W1).bind fun r31 =>
    (bin .add at7 r31.1).bind fun v32 =>
    (bin .lss v32 at7).bind fun v35 =>
    (asB v35).bind fun c35 =>
    (if c35 then
      (prun Tryz.prog (Builtin.len_ #[9] 3 #[s0_1])).bind fun v37 =>
      some (Res.norm [s0_1, v2, l5, begun6, at7, v37] r31.2)
     else
      some (Res.norm [s0_1, v2, l5, begun6, at7, v32] r31.2)).bind fun (r : Res) => r.cont fun vs_1 W2 =>
    let s0_2 := nth vs_1 0
    let v2_1 := nth vs_1 1
    let l5_1 := nth vs_1 2
    let begun6_1 := nth vs_1 3
    let at7_1 := nth vs_1 4
    let to8 := nth vs_1 5
    (prun Tryz.prog (Instr.build 64 #[])).bind fun v38 =>
    (erun Tryz.prog (Instr.box 64 v38) W2).bind fun r39 =>
    (call 26 #[s0_2, at7_1, to8] r39.2).bind fun r46 =>
    (prun Tryz.prog (Instr.extract r46.1 0)).bind fun v47 =>
    (prun Tryz.prog (Instr.extract r46.1 1)).bind fun v48 =>
    (nilV Tryz.prog r39.1).bind fun v49 =>
    (prun Tryz.prog (Instr.fieldAt 64 v49 0)).bind fun v50 =>
    (erun Tryz.prog (Instr.storeAt 62 v50 v47) r46.2).bind fun r_2 =>
    (nilV Tryz.prog r39.1).bind fun v51 =>
    (prun Tryz.prog (Instr.fieldAt 64 v51 1)).bind fun v52 =>
    (erun Tryz.prog (Instr.storeAt 3 v52 v48) r_2.2).bind fun r_3 =>
    (bin .add to8 (Value.int IntKind.i64 1)).bind fun v54 =>
    (nilV Tryz.prog r39.1).bind fun v56 =>
    (prun Tryz.prog (Instr.fieldAt 64 v56 0)).bind fun v57 =>
    (rrun Tryz.prog (Instr.loadAt 62 v57) r_3.2).bind fun v58 =>
    (prun Tryz.prog (Builtin.len_ #[62] 3 #[v58])).bind fun v59 =>
    (bin .eql v59 (Value.int IntKind.i64 0)).bind fun v60 =>
    (asB v60).bind fun c60 =>
    if c60 then
      some (Res.exit 1 [s0_2, v2_1, l5_1, begun6_1, v54] r_3.2)
    else
    (prun Tryz.prog (Op.unary .not begun6_1)).bind fun v62 =>
    (asB v62).bind fun c62 =>
    (if c62 then
      (call 27 #[r39.1] r_3.2).bind fun r65 =>
      (prun Tryz.prog (Instr.extract r65.1 0)).bind fun v66 =>
      (prun Tryz.prog (Instr.extract r65.1 1)).bind fun v67 =>
      (erun Tryz.prog (Instr.storeAt 30 l5_1 v66) r65.2).bind fun r_4 =>
      some (Res.norm [s0_2, v2_1, l5_1, (Value.bool true), v54, v67] r_4.2)
     else
      (call 28 #[r39.1, l5_1] r_3.2).bind fun r69 =>
      some (Res.norm [s0_2, v2_1, l5_1, begun6_1, v54, r69.1] r69.2)).bind fun (r : Res) => r.cont fun vs_2 W3 =>
    let s0_3 := nth vs_2 0
    let v2_2 := nth vs_2 1
    let l5_2 := nth vs_2 2
    let begun6_2 := nth vs_2 3
    let at7_2 := nth vs_2 4
    let err10 := nth vs_2 5
    (rrun Tryz.prog (do eqGuard .neq 32 (Operand.tmp 70) (Operand.const Value.nilIface) err10 Value.nilIface; binOp .neq 32 err10 Value.nilIface) W3).bind fun v71 =>
    (asB v71).bind fun c71 =>
    if c71 then
      (prun Tryz.prog (Instr.build 30 #[])).bind fun v72 =>
      (erun Tryz.prog (Instr.storeAt 30 v2_2 v72) W3).bind fun r_5 =>
      some (Res.ret [v2_2, err10] r_5.2)
    else
    some (Res.norm [s0_3, v2_2, l5_2, begun6_2, at7_2] W3)).bind fun (r : Res) => (r.unblock 1).cont fun vs_3 W4 =>
    let s0_4 := nth vs_3 0
    let v2_3 := nth vs_3 1
    let l5_3 := nth vs_3 2
    let begun6_3 := nth vs_3 3
    let at7_3 := nth vs_3 4
    some (Res.norm [s0_4, v2_3, l5_3, begun6_3, at7_3] W4)
  else
  some (Res.exit 0 [s0_1, v2, l5, begun6] W1)
noncomputable def f9 (call : CallF) (s0 : Value) (W0 : World) : Option (Value × World) :=
  ((erun Tryz.prog (Instr.alloc 30 true (.tuple #[])) W0).bind fun r2 =>
  (prun Tryz.prog (Builtin.len_ #[9] 3 #[s0])).bind fun v12 =>
  (bin .gtr v12 (Value.int IntKind.i64 20000)).bind fun v13 =>
  (asB v13).bind fun c13 =>
  if c13 then
    (prun Tryz.prog (Instr.build 30 #[])).bind fun v14 =>
    (call 23 #[(Value.int IntKind.i64 0), (Value.int IntKind.i64 191)] r2.2).bind fun r15 =>
    (erun Tryz.prog (Instr.storeAt 30 r2.1 v14) r15.2).bind fun r =>
    some (Res.ret [r2.1, r15.1] r.2)
  else
  (call 24 #[s0] r2.2).bind fun r17 =>
  (bin .geq r17.1 (Value.int IntKind.i64 0)).bind fun v19 =>
  (asB v19).bind fun c19 =>
  if c19 then
    (prun Tryz.prog (Instr.build 30 #[])).bind fun v20 =>
    (call 23 #[r17.1, (Value.int IntKind.i64 192)] r17.2).bind fun r22 =>
    (erun Tryz.prog (Instr.storeAt 30 r2.1 v20) r22.2).bind fun r_1 =>
    some (Res.ret [r2.1, r22.1] r_1.2)
  else
  (erun Tryz.prog (Instr.alloc 30 true (.tuple #[])) r17.2).bind fun r5 =>
  (iter (f9.l0 call) [s0, r2.1, r5.1, (Value.bool false), (Value.int IntKind.i64 0)] r5.2).bind fun (r : Res) => (r.unblock 0).cont fun vs_4 W5 =>
  let s0_5 := nth vs_4 0
  let v2_4 := nth vs_4 1
  let l5_4 := nth vs_4 2
  let begun6_4 := nth vs_4 3
  (prun Tryz.prog (Op.unary .not begun6_4)).bind fun v75 =>
  (asB v75).bind fun c75 =>
  if c75 then
    (prun Tryz.prog (Instr.build 30 #[])).bind fun v76 =>
    (prun Tryz.prog (Builtin.len_ #[9] 3 #[s0_5])).bind fun v78 =>
    (call 23 #[v78, (Value.int IntKind.i64 193)] W5).bind fun r79 =>
    (erun Tryz.prog (Instr.storeAt 30 v2_4 v76) r79.2).bind fun r_6 =>
    some (Res.ret [v2_4, r79.1] r_6.2)
  else
  (rrun Tryz.prog (Instr.loadAt 30 l5_4) W5).bind fun v80 =>
  (erun Tryz.prog (Instr.storeAt 30 v2_4 v80) W5).bind fun r_7 =>
  some (Res.ret [v2_4, Value.nilIface] r_7.2)).bind (Res.doneR Tryz.prog [.cell 2 30, .tmp 3])
theorem f9.eq (call dfr : CallF) (s0 : Value) (W0 : World) : aFun Tryz.prog call dfr Tryz.f9 f9.ann (ofArgs #[s0]) W0 = f9 call s0 W0 := by kernel_rfl

/-- dailies/dailieslaw19.same -/
def f11.ann : Ann := (.s .z (.s .z (.s .z .z)))
noncomputable def f11 (call : CallF) (a0 : Value) (b1 : Value) (W0 : World) : Option (Value × World) :=
  ((erun Tryz.prog (Instr.box 30 a0) W0).bind fun r2 =>
  (erun Tryz.prog (Instr.box 30 b1) r2.2).bind fun r3 =>
  (prun Tryz.prog (Instr.fieldAt 30 r2.1 2)).bind fun v6 =>
  (rrun Tryz.prog (Instr.loadAt 28 v6) r3.2).bind fun v7 =>
  (prun Tryz.prog (Instr.fieldAt 30 r3.1 2)).bind fun v8 =>
  (rrun Tryz.prog (Instr.loadAt 28 v8) r3.2).bind fun v9 =>
  (call 33 #[v7, v9] r3.2).bind fun r10 =>
  (asB r10.1).bind fun b12 =>
  (if b12 = true then (prun Tryz.prog (Instr.fieldAt 30 r2.1 0)).bind fun v13 =>
    (rrun Tryz.prog (Instr.loadAt 9 v13) r10.2).bind fun v14 =>
    (prun Tryz.prog (Instr.fieldAt 30 r3.1 0)).bind fun v15 =>
    (rrun Tryz.prog (Instr.loadAt 9 v15) r10.2).bind fun v16 =>
    (prun Tryz.prog (do eqGuard .eql 9 (Operand.tmp 14) (Operand.tmp 16) v14 v16; binOp .eql 9 v14 v16)).bind fun v17 =>
    some (v17, r10.2)
   else some ((Value.bool false), r10.2)).bind fun r18 =>
  (asB r18.1).bind fun b19 =>
  (if b19 = true then (prun Tryz.prog (Instr.fieldAt 30 r2.1 1)).bind fun v20 =>
    (rrun Tryz.prog (Instr.loadAt 27 v20) r18.2).bind fun v21 =>
    (prun Tryz.prog (Instr.fieldAt 30 r3.1 1)).bind fun v22 =>
    (rrun Tryz.prog (Instr.loadAt 27 v22) r18.2).bind fun v23 =>
    (bin .eql v21 v23).bind fun v24 =>
    some (v24, r18.2)
   else some ((Value.bool false), r18.2)).bind fun r25 =>
  some (Res.ret [r25.1] r25.2)).bind Res.done
theorem f11.eq (call dfr : CallF) (a0 : Value) (b1 : Value) (W0 : World) : aFun Tryz.prog call dfr Tryz.f11 f11.ann (ofArgs #[a0, b1]) W0 = f11 call a0 b1 W0 := by kernel_rfl

/-- dailies/dailieslaw19.fault -/
def f12.ann : Ann := (.s .z (.s (.s .z (.c (.s .z .z) .z)) (.s .z (.s .z (.s (.s .z (.c (.s .z .z) .z)) (.s .z (.s .z .z)))))))
noncomputable def f12 (call : CallF) (err0 : Value) (at1 : Value) (e2 : Value) (W0 : World) : Option (Value × World) :=
  ((bin .eql e2 (Value.int IntKind.i64 0)).bind fun v11 =>
  (asB v11).bind fun c11 =>
  if c11 then
    (rrun Tryz.prog (do eqGuard .eql 32 (Operand.tmp 12) (Operand.const Value.nilIface) err0 Value.nilIface; binOp .eql 32 err0 Value.nilIface) W0).bind fun v13 =>
    some (Res.ret [v13] W0)
  else
  (prun Tryz.prog (Instr.build 83 #[])).bind fun v14 =>
  (erun Tryz.prog (Instr.box 83 v14) W0).bind fun r15 =>
  (erun Tryz.prog (Instr.alloc 82 true (.tuple #[])) r15.2).bind fun r7 =>
  (erun Tryz.prog (Instr.storeAt 82 r7.1 r15.1) r7.2).bind fun r =>
  (prun Tryz.prog (Instr.makeInterface 85 r7.1)).bind fun v17 =>
  (call 34 #[err0, v17] r.2).bind fun r18 =>
  (prun Tryz.prog (Op.unary .not r18.1)).bind fun v20 =>
  (asB v20).bind fun b21 =>
  (if b21 = false then (rrun Tryz.prog (Instr.loadAt 82 r7.1) r18.2).bind fun v22 =>
    (rrun Tryz.prog (do eqGuard .eql 82 (Operand.tmp 22) (Operand.const (Value.pointer none)) v22 (Value.pointer none); binOp .eql 82 v22 (Value.pointer none)) r18.2).bind fun v23 =>
    some (v23, r18.2)
   else some ((Value.bool true), r18.2)).bind fun r24 =>
  (asB r24.1).bind fun c24 =>
  if c24 then
    some (Res.ret [(Value.bool false)] r24.2)
  else
  (prun Tryz.prog (Instr.makeInterface 35 e2)).bind fun v27 =>
  (call 22 #[err0, v27] r24.2).bind fun r28 =>
  (asB r28.1).bind fun b30 =>
  (if b30 = true then (rrun Tryz.prog (Instr.loadAt 82 r7.1) r28.2).bind fun v31 =>
    (nilV Tryz.prog v31).bind fun v32 =>
    (prun Tryz.prog (Instr.fieldAt 83 v32 0)).bind fun v33 =>
    (rrun Tryz.prog (Instr.loadAt 3 v33) r28.2).bind fun v34 =>
    (bin .eql v34 at1).bind fun v36 =>
    some (v36, r28.2)
   else some ((Value.bool false), r28.2)).bind fun r37 =>
  (asB r37.1).bind fun b38 =>
  (if b38 = true then (rrun Tryz.prog (Instr.loadAt 82 r7.1) r37.2).bind fun v39 =>
    (nilV Tryz.prog v39).bind fun v40 =>
    (prun Tryz.prog (Instr.fieldAt 83 v40 1)).bind fun v41 =>
    (rrun Tryz.prog (Instr.loadAt 35 v41) r37.2).bind fun v42 =>
    (bin .eql v42 e2).bind fun v44 =>
    some (v44, r37.2)
   else some ((Value.bool false), r37.2)).bind fun r45 =>
  some (Res.ret [r45.1] r45.2)).bind Res.done
theorem f12.eq (call dfr : CallF) (err0 : Value) (at1 : Value) (e2 : Value) (W0 : World) : aFun Tryz.prog call dfr Tryz.f12 f12.ann (ofArgs #[err0, at1, e2]) W0 = f12 call err0 at1 e2 W0 := by kernel_rfl

/-- dailies/cuts.Check -/
def f15.ann : Ann := (.s .z (.s .z (.s (.b [1, 3] (.s .z (.c (.s .z .z) (.s .z (.c (.s .z .z) (.s .z (.c (.s .z .z) (.s .z (.c (.s .z .z) .z))))))))) (.s (.s .z (.b [] (.l [1, 3, 37, 38, 39] (.s .z (.s (.c .z .z) (.s (.b [1, 3, 37, 38, 39] (.s .z (.s .z (.s .z (.c (.s .z .z) .z))))) .z)))))) (.s .z .z)))))
noncomputable def f15.l0 (call : CallF) (vs_1 : List Value) (W2 : World) : Option Res :=
  let l1_1 := nth vs_1 0
  let day3_1 := nth vs_1 1
  let v37_1 := nth vs_1 2
  let v38_1 := nth vs_1 3
  let v39 := nth vs_1 4
  (bin .lss v39 v38_1).bind fun v40 =>
  (asB v40).bind fun c40 =>
  if c40 then
    ((prun Tryz.prog (Instr.indexAt 28 v37_1 v39)).bind fun v42 =>
    (rrun Tryz.prog (Instr.loadAt 51 v42) W2).bind fun v43 =>
    (erun Tryz.prog (Instr.alloc 51 true (.tuple #[])) W2).bind fun r6 =>
    (erun Tryz.prog (Instr.storeAt 51 r6.1 v43) r6.2).bind fun r =>
    (prun Tryz.prog (Instr.fieldAt 30 l1_1 2)).bind fun v44 =>
    (rrun Tryz.prog (Instr.loadAt 28 v44) r.2.drew).bind fun v45 =>
    (prun Tryz.prog (Instr.sliceAt 28 v45 none (some v39) none)).bind fun v47 =>
    (rrun Tryz.prog (Instr.loadAt 51 r6.1) r.2.drew).bind fun v48 =>
    (call 40 #[v47, v48, day3_1] r.2.drew).bind fun r50 =>
    (bin .neq r50.1 (Value.int IntKind.i64 0)).bind fun v52 =>
    (asB v52).bind fun c52 =>
    if c52 then
      (call 38 #[v39, r50.1] r50.2).bind fun r55 =>
      some (Res.ret [r55.1] r55.2)
    else
    some (Res.norm [l1_1, day3_1, v37_1, v38_1, v39] r50.2)).bind fun (r : Res) => (r.unblock 2).cont fun vs_2 W3 =>
    let l1_2 := nth vs_2 0
    let day3_2 := nth vs_2 1
    let v37_2 := nth vs_2 2
    let v38_2 := nth vs_2 3
    let v39_1 := nth vs_2 4
    (bin .add v39_1 (Value.int IntKind.i64 1)).bind fun v56 =>
    some (Res.norm [l1_2, day3_2, v37_2, v38_2, v56] W3)
  else
  some (Res.exit 1 [] W2)
noncomputable def f15 (call : CallF) (l0 : Value) (W0 : World) : Option (Value × World) :=
  ((erun Tryz.prog (Instr.box 30 l0) W0).bind fun r1 =>
  (prun Tryz.prog (Instr.fieldAt 30 r1.1 1)).bind fun v9 =>
  (rrun Tryz.prog (Instr.loadAt 27 v9) r1.2).bind fun v10 =>
  (call 37 #[v10] r1.2).bind fun r11 =>
  (prun Tryz.prog (Instr.extract r11.1 0)).bind fun v12 =>
  (prun Tryz.prog (Instr.extract r11.1 1)).bind fun v13 =>
  ((prun Tryz.prog (Instr.fieldAt 30 r1.1 0)).bind fun v15 =>
  (rrun Tryz.prog (Instr.loadAt 9 v15) r11.2).bind fun v16 =>
  (prun Tryz.prog (Builtin.len_ #[9] 3 #[v16])).bind fun v17 =>
  (bin .gtr v17 (Value.int IntKind.i64 100)).bind fun v18 =>
  (asB v18).bind fun c14 =>
  if c14 then
    (call 38 #[(Value.int IntKind.i64 (-1)), (Value.int IntKind.i64 191)] r11.2).bind fun r19 =>
    some (Res.ret [r19.1] r19.2)
  else
  (prun Tryz.prog (Instr.fieldAt 30 r1.1 0)).bind fun v21 =>
  (rrun Tryz.prog (Instr.loadAt 9 v21) r11.2).bind fun v22 =>
  (call 39 #[v22] r11.2).bind fun r23 =>
  (prun Tryz.prog (Op.unary .not r23.1)).bind fun v24 =>
  (asB v24).bind fun c20 =>
  if c20 then
    (call 38 #[(Value.int IntKind.i64 (-1)), (Value.int IntKind.i64 192)] r23.2).bind fun r25 =>
    some (Res.ret [r25.1] r25.2)
  else
  (bin .neq v13 (Value.int IntKind.i64 0)).bind fun v28 =>
  (asB v28).bind fun c26 =>
  if c26 then
    (call 38 #[(Value.int IntKind.i64 (-1)), (Value.int IntKind.i64 181)] r23.2).bind fun r29 =>
    some (Res.ret [r29.1] r29.2)
  else
  (prun Tryz.prog (Instr.fieldAt 30 r1.1 2)).bind fun v31 =>
  (rrun Tryz.prog (Instr.loadAt 28 v31) r23.2).bind fun v32 =>
  (prun Tryz.prog (Builtin.len_ #[28] 3 #[v32])).bind fun v33 =>
  (bin .gtr v33 (Value.int IntKind.i64 200)).bind fun v34 =>
  (asB v34).bind fun c30 =>
  if c30 then
    (call 38 #[(Value.int IntKind.i64 (-1)), (Value.int IntKind.i64 196)] r23.2).bind fun r35 =>
    some (Res.ret [r35.1] r35.2)
  else
  some (Res.norm [r1.1, v12] r23.2)).bind fun (r : Res) => (r.unblock 0).cont fun vs W1 =>
  let l1 := nth vs 0
  let day3 := nth vs 1
  (prun Tryz.prog (Instr.fieldAt 30 l1 2)).bind fun v36 =>
  (rrun Tryz.prog (Instr.loadAt 28 v36) W1).bind fun v37 =>
  (prun Tryz.prog (Builtin.len_ #[28] 3 #[v37])).bind fun v38 =>
  (iter (f15.l0 call) [l1, day3, v37, v38, (Value.int IntKind.i64 0)] W1).bind fun (r : Res) => (r.unblock 1).cont fun vs_3 W4 =>
  some (Res.ret [Value.nilIface] W4)).bind Res.done
theorem f15.eq (call dfr : CallF) (l0 : Value) (W0 : World) : aFun Tryz.prog call dfr Tryz.f15 f15.ann (ofArgs #[l0]) W0 = f15 call l0 W0 := by kernel_rfl

/-- dailies/dailieslaw19.filled -/
def f16.ann : Ann := (.s .z (.s .z (.s .z (.s .z (.s .z (.s .z (.s .z (.s (.s .z (.b [9] (.l [0, 1, 5, 6, 7, 8, 9, 10, 11] (.s (.s .z (.c .z .z)) (.s (.b [0, 1, 5, 6, 7, 8, 9, 10, 11] (.s .z (.s .z (.s (.s .z (.b [0, 1, 5, 6, 7, 8, 9, 10, 11] (.l [0, 1, 5, 6, 7, 8, 9, 10, 11, 12] (.s (.s .z (.c .z .z)) (.s (.b [0, 1, 5, 6, 7, 8, 9, 10, 11, 12] (.s (.s .z (.j [0, 1, 5, 6, 7, 8, 9, 10, 11, 12] (.s .z .z) .z)) .z)) .z))))) (.s .z .z))))) .z))))) (.s .z .z)))))))))
noncomputable def f16.l0 (call : CallF) (vs_1 : List Value) (W2 : World) : Option Res :=
  let lines0_2 := nth vs_1 0
  let l1_2 := nth vs_1 1
  let blanks5_1 := nth vs_1 2
  let free6_1 := nth vs_1 3
  let none7_1 := nth vs_1 4
  let ends8_1 := nth vs_1 5
  let s9_1 := nth vs_1 6
  let n10_1 := nth vs_1 7
  let k11_1 := nth vs_1 8
  let i12 := nth vs_1 9
  (prun Tryz.prog (Instr.indexAt 45 lines0_2 k11_1)).bind fun v46 =>
  (rrun Tryz.prog (Instr.loadAt 91 v46) W2).bind fun v47 =>
  (prun Tryz.prog (Builtin.len_ #[91] 3 #[v47])).bind fun v48 =>
  (bin .lss i12 v48).bind fun v49 =>
  (asB v49).bind fun c49 =>
  if c49 then
    ((bin .gtr i12 (Value.int IntKind.i64 0)).bind fun v53 =>
    (asB v53).bind fun c53 =>
    (if c53 then
      (call 41 #[l1_2, n10_1] W2).bind fun r58 =>
      (call 19 #[r58.1, (Value.int IntKind.i64 4)] r58.2).bind fun r59 =>
      (prun Tryz.prog (Instr.indexAt 91 blanks5_1 r59.1)).bind fun v60 =>
      (rrun Tryz.prog (Instr.loadAt 9 v60) r59.2).bind fun v61 =>
      (prun Tryz.prog (do eqGuard .add 9 (Operand.tmp 54) (Operand.tmp 61) s9_1 v61; binOp .add 9 s9_1 v61)).bind fun v62 =>
      (bin .add n10_1 (Value.int IntKind.i64 1)).bind fun v64 =>
      some (Res.norm [lines0_2, l1_2, blanks5_1, free6_1, none7_1, ends8_1, v62, v64, k11_1, i12] r59.2)
     else
      some (Res.norm [lines0_2, l1_2, blanks5_1, free6_1, none7_1, ends8_1, s9_1, n10_1, k11_1, i12] W2)).bind fun (r : Res) => r.cont fun vs_2 W3 =>
    let lines0_3 := nth vs_2 0
    let l1_3 := nth vs_2 1
    let blanks5_2 := nth vs_2 2
    let free6_2 := nth vs_2 3
    let none7_2 := nth vs_2 4
    let ends8_2 := nth vs_2 5
    let s9_2 := nth vs_2 6
    let n10_2 := nth vs_2 7
    let k11_2 := nth vs_2 8
    let i12_1 := nth vs_2 9
    (prun Tryz.prog (Instr.indexAt 45 lines0_3 k11_2)).bind fun v68 =>
    (rrun Tryz.prog (Instr.loadAt 91 v68) W3).bind fun v69 =>
    (prun Tryz.prog (Instr.indexAt 91 v69 i12_1)).bind fun v71 =>
    (rrun Tryz.prog (Instr.loadAt 9 v71) W3).bind fun v72 =>
    (prun Tryz.prog (do eqGuard .add 9 (Operand.tmp 65) (Operand.tmp 72) s9_2 v72; binOp .add 9 s9_2 v72)).bind fun v73 =>
    some (Res.norm [lines0_3, l1_3, blanks5_2, free6_2, none7_2, ends8_2, v73, n10_2, k11_2, i12_1] W3)).bind fun (r : Res) => (r.unblock 3).cont fun vs_3 W4 =>
    let lines0_4 := nth vs_3 0
    let l1_4 := nth vs_3 1
    let blanks5_3 := nth vs_3 2
    let free6_3 := nth vs_3 3
    let none7_3 := nth vs_3 4
    let ends8_3 := nth vs_3 5
    let s9_3 := nth vs_3 6
    let n10_3 := nth vs_3 7
    let k11_3 := nth vs_3 8
    let i12_2 := nth vs_3 9
    (bin .add i12_2 (Value.int IntKind.i64 1)).bind fun v51 =>
    some (Res.norm [lines0_4, l1_4, blanks5_3, free6_3, none7_3, ends8_3, s9_3, n10_3, k11_3, v51] W4)
  else
  some (Res.exit 2 [lines0_2, l1_2, blanks5_1, free6_1, none7_1, ends8_1, s9_1, n10_1, k11_1] W2)
noncomputable def f16.l1 (call : CallF) (vs : List Value) (W1 : World) : Option Res :=
  let lines0_1 := nth vs 0
  let l1_1 := nth vs 1
  let blanks5 := nth vs 2
  let free6 := nth vs 3
  let none7 := nth vs 4
  let ends8 := nth vs 5
  let s9 := nth vs 6
  let n10 := nth vs 7
  let k11 := nth vs 8
  (prun Tryz.prog (Builtin.len_ #[45] 3 #[lines0_1])).bind fun v19 =>
  (bin .lss k11 v19).bind fun v20 =>
  (asB v20).bind fun c20 =>
  if c20 then
    (((call 41 #[l1_1, n10] W1.drew).bind fun r27_1 =>
    some (r27_1.1, r27_1.2)).bind fun r27 =>
    ((call 19 #[r27.1, (Value.int IntKind.i64 6)] r27.2).bind fun r28_1 =>
    some (r28_1.1, r28_1.2)).bind fun r28 =>
    ((prun Tryz.prog (Instr.indexAt 91 none7 r28.1)).bind fun v29 =>
    some (v29, r28.2)).bind fun r29 =>
    ((rrun Tryz.prog (Instr.loadAt 9 r29.1) r29.2).bind fun v30 =>
    some (v30, r29.2)).bind fun r30 =>
    ((prun Tryz.prog (do eqGuard .add 9 (Operand.tmp 23) (Operand.tmp 30) s9 r30.1; binOp .add 9 s9 r30.1)).bind fun v31 =>
    some (v31, r30.2)).bind fun r31 =>
    ((bin .add n10 (Value.int IntKind.i64 1)).bind fun v35 =>
    some (v35, r31.2)).bind fun r35 =>
    ((call 41 #[l1_1, r35.1] r35.2).bind fun r36_1 =>
    some (r36_1.1, r36_1.2)).bind fun r36 =>
    ((call 19 #[r36.1, (Value.int IntKind.i64 4)] r36.2).bind fun r37_1 =>
    some (r37_1.1, r37_1.2)).bind fun r37 =>
    ((prun Tryz.prog (Instr.indexAt 91 free6 r37.1)).bind fun v38 =>
    some (v38, r37.2)).bind fun r38 =>
    ((rrun Tryz.prog (Instr.loadAt 9 r38.1) r38.2).bind fun v39 =>
    some (v39, r38.2)).bind fun r39 =>
    ((prun Tryz.prog (do eqGuard .add 9 (Operand.tmp 31) (Operand.tmp 39) r31.1 r39.1; binOp .add 9 r31.1 r39.1)).bind fun v40 =>
    some (v40, r39.2)).bind fun r40 =>
    chkThen ((((rrun Tryz.prog (Instr.loadAt 9 r29.1) r35.2).bind fun v30_3 => some v30_3) = some r30.1 ∧ ((rrun Tryz.prog (Instr.loadAt 9 r29.1) r36.2).bind fun v30_4 => some v30_4) = some r30.1) ∧ (((rrun Tryz.prog (Instr.loadAt 9 r29.1) r36.2).bind fun v30_1 => some v30_1) = some r30.1 ∧ ((rrun Tryz.prog (Instr.loadAt 9 r29.1) r37.2).bind fun v30_2 => some v30_2) = some r30.1) ∧ True)
    ((bin .add n10 (Value.int IntKind.i64 2)).bind fun v42 =>
    (iter (f16.l0 call) [lines0_1, l1_1, blanks5, free6, none7, ends8, r40.1, v42, k11, (Value.int IntKind.i64 0)] r40.2).bind fun (r : Res) => (r.unblock 2).cont fun vs_4 W5 =>
    let lines0_5 := nth vs_4 0
    let l1_5 := nth vs_4 1
    let blanks5_4 := nth vs_4 2
    let free6_4 := nth vs_4 3
    let none7_4 := nth vs_4 4
    let ends8_4 := nth vs_4 5
    let s9_4 := nth vs_4 6
    let n10_4 := nth vs_4 7
    let k11_4 := nth vs_4 8
    (call 41 #[l1_5, n10_4] W5).bind fun r78 =>
    (call 19 #[r78.1, (Value.int IntKind.i64 5)] r78.2).bind fun r79 =>
    (prun Tryz.prog (Instr.indexAt 91 ends8_4 r79.1)).bind fun v80 =>
    (rrun Tryz.prog (Instr.loadAt 9 v80) r79.2).bind fun v81 =>
    (prun Tryz.prog (do eqGuard .add 9 (Operand.tmp 74) (Operand.tmp 81) s9_4 v81; binOp .add 9 s9_4 v81)).bind fun v82 =>
    (bin .add n10_4 (Value.int IntKind.i64 1)).bind fun v84 =>
    some (Res.norm [lines0_5, l1_5, blanks5_4, free6_4, none7_4, ends8_4, v82, v84, k11_4] r79.2))).bind fun (r : Res) => (r.unblock 1).cont fun vs_5 W6 =>
    let lines0_6 := nth vs_5 0
    let l1_6 := nth vs_5 1
    let blanks5_5 := nth vs_5 2
    let free6_5 := nth vs_5 3
    let none7_5 := nth vs_5 4
    let ends8_5 := nth vs_5 5
    let s9_5 := nth vs_5 6
    let n10_5 := nth vs_5 7
    let k11_5 := nth vs_5 8
    (bin .add k11_5 (Value.int IntKind.i64 1)).bind fun v22 =>
    some (Res.norm [lines0_6, l1_6, blanks5_5, free6_5, none7_5, ends8_5, s9_5, n10_5, v22] W6)
  else
  some (Res.exit 0 [s9] W1)
noncomputable def f16 (call : CallF) (lines0 : Value) (l1 : Value) (W0 : World) : Option (Value × World) :=
  ((erun Tryz.prog (Instr.buildSlice 91 4 #[(0, (Value.string { data := #[32] })), (1, (Value.string { data := #[32, 32] })), (2, (Value.string { data := #[9] })), (3, (Value.string { data := #[32, 9, 32] }))]) W0).bind fun r13 =>
  (erun Tryz.prog (Instr.buildSlice 91 4 #[(0, (Value.string { data := #[] })), (1, (Value.string { data := #[] })), (2, (Value.string { data := #[32] })), (3, (Value.string { data := #[9] }))]) r13.2).bind fun r14 =>
  (erun Tryz.prog (Instr.buildSlice 91 6 #[(0, (Value.string { data := #[] })), (1, (Value.string { data := #[] })), (2, (Value.string { data := #[10] })), (3, (Value.string { data := #[35, 32, 99, 117, 116, 32, 120, 10] })), (4, (Value.string { data := #[32, 9, 10] })), (5, (Value.string { data := #[35, 34, 10, 10] }))]) r14.2).bind fun r15 =>
  (erun Tryz.prog (Instr.buildSlice 91 5 #[(0, (Value.string { data := #[10] })), (1, (Value.string { data := #[10] })), (2, (Value.string { data := #[32, 35, 32, 102, 97, 100, 101, 32, 51, 10] })), (3, (Value.string { data := #[9, 10] })), (4, (Value.string { data := #[32, 35, 10] }))]) r15.2).bind fun r16 =>
  (iter (f16.l1 call) [lines0, l1, r13.1, r14.1, r15.1, r16.1, (Value.string { data := #[] }), (Value.int IntKind.i64 0), (Value.int IntKind.i64 0)] r16.2).bind fun (r : Res) => (r.unblock 0).cont fun vs_6 W7 =>
  let s9_6 := nth vs_6 0
  some (Res.ret [s9_6] W7)).bind Res.done
theorem f16.eq (call dfr : CallF) (lines0 : Value) (l1 : Value) (W0 : World) : aFun Tryz.prog call dfr Tryz.f16 f16.ann (ofArgs #[lines0, l1]) W0 = f16 call lines0 l1 W0 := by kernel_rfl

/-- dailies/dailiesref19.Lines -/
def f17.ann : Ann := (.s .z (.s .z (.s (.s .z (.b [3] (.l [1, 3, 4] (.s (.s .z (.c .z .z)) (.s (.b [1, 3, 4] (.s .z (.s .z (.s (.s .z (.j [1, 3, 4, 5, 6] .z .z)) (.s .z (.s .z (.s .z (.s (.s .z (.j [1, 3, 4, 6] .z .z)) .z)))))))) .z))))) (.s .z .z))))
noncomputable def f17.l0 (call : CallF) (vs : List Value) (W1 : World) : Option Res :=
  let l1 := nth vs 0
  let out3 := nth vs 1
  let k4 := nth vs 2
  (prun Tryz.prog (Instr.fieldAt 30 l1 2)).bind fun v20 =>
  (rrun Tryz.prog (Instr.loadAt 28 v20) W1).bind fun v21 =>
  (prun Tryz.prog (Builtin.len_ #[28] 3 #[v21])).bind fun v22 =>
  (bin .lss k4 v22).bind fun v23 =>
  (asB v23).bind fun c23 =>
  if c23 then
    ((prun Tryz.prog (Instr.fieldAt 30 l1 2)).bind fun v26 =>
    (rrun Tryz.prog (Instr.loadAt 28 v26) W1).bind fun v27 =>
    (prun Tryz.prog (Instr.indexAt 28 v27 k4)).bind fun v29 =>
    (rrun Tryz.prog (Instr.loadAt 51 v29) W1).bind fun v30 =>
    (erun Tryz.prog (Instr.alloc 51 true (.tuple #[])) W1).bind fun r5 =>
    (erun Tryz.prog (Instr.storeAt 51 r5.1 v30) r5.2).bind fun r =>
    (erun Tryz.prog (Instr.buildSlice 91 1 #[(0, (Value.string { data := #[99, 117, 116] }))]) r.2).bind fun r31 =>
    (prun Tryz.prog (Instr.fieldAt 51 r5.1 3)).bind fun v32 =>
    (rrun Tryz.prog (Instr.loadAt 3 v32) r31.2).bind fun v33 =>
    (bin .gtr v33 (Value.int IntKind.i64 0)).bind fun v34 =>
    (asB v34).bind fun c34 =>
    (if c34 then
      (prun Tryz.prog (Instr.fieldAt 51 r5.1 3)).bind fun v35 =>
      (rrun Tryz.prog (Instr.loadAt 3 v35) r31.2).bind fun v36 =>
      (call 44 #[v36] r31.2).bind fun r37 =>
      (erun Tryz.prog (Instr.buildSlice 91 2 #[(0, (Value.string { data := #[102, 97, 100, 101] })), (1, r37.1)]) r37.2).bind fun r38 =>
      some (Res.norm [l1, out3, k4, r5.1, r38.1] r38.2)
     else
      some (Res.norm [l1, out3, k4, r5.1, r31.1] r31.2)).bind fun (r : Res) => r.cont fun vs_1 W2 =>
    let l1_1 := nth vs_1 0
    let out3_1 := nth vs_1 1
    let k4_1 := nth vs_1 2
    let x5 := nth vs_1 3
    let row6 := nth vs_1 4
    (prun Tryz.prog (Instr.fieldAt 30 l1_1 1)).bind fun v40 =>
    (rrun Tryz.prog (Instr.loadAt 27 v40) W2).bind fun v41 =>
    (prun Tryz.prog (Instr.fieldAt 51 x5 1)).bind fun v42 =>
    (rrun Tryz.prog (Instr.loadAt 3 v42) W2).bind fun v43 =>
    (call 45 #[v41, v43] W2).bind fun r44 =>
    (prun Tryz.prog (Instr.extract r44.1 0)).bind fun v45 =>
    (prun Tryz.prog (Instr.extract r44.1 1)).bind fun v46 =>
    (prun Tryz.prog (Instr.fieldAt 30 l1_1 1)).bind fun v48 =>
    (rrun Tryz.prog (Instr.loadAt 27 v48) r44.2).bind fun v49 =>
    (prun Tryz.prog (Instr.fieldAt 51 x5 2)).bind fun v50 =>
    (rrun Tryz.prog (Instr.loadAt 3 v50) r44.2).bind fun v51 =>
    (call 45 #[v49, v51] r44.2).bind fun r52 =>
    (prun Tryz.prog (Instr.extract r52.1 0)).bind fun v53 =>
    (prun Tryz.prog (Instr.extract r52.1 1)).bind fun v54 =>
    (prun Tryz.prog (Instr.fieldAt 51 x5 0)).bind fun v56 =>
    (rrun Tryz.prog (Instr.loadAt 9 v56) r52.2).bind fun v57 =>
    (erun Tryz.prog (Instr.buildSlice 91 3 #[(0, v57), (1, v45), (2, v53)]) r52.2).bind fun r60 =>
    (erun Tryz.prog (Builtin.append_ #[91, 91] 91 #[row6, r60.1]) r60.2).bind fun r61 =>
    (prun Tryz.prog (Instr.fieldAt 51 x5 4)).bind fun v62 =>
    (rrun Tryz.prog (Instr.loadAt 9 v62) r61.2).bind fun v63 =>
    (prun Tryz.prog (do eqGuard .neq 9 (Operand.tmp 63) (Operand.const (Value.string { data := #[] })) v63 (Value.string { data := #[] }); binOp .neq 9 v63 (Value.string { data := #[] }))).bind fun v64 =>
    (asB v64).bind fun c64 =>
    (if c64 then
      (prun Tryz.prog (Instr.fieldAt 51 x5 4)).bind fun v66 =>
      (rrun Tryz.prog (Instr.loadAt 9 v66) r61.2).bind fun v67 =>
      (call 43 #[v67] r61.2).bind fun r68 =>
      (erun Tryz.prog (Instr.buildSlice 91 1 #[(0, r68.1)]) r68.2).bind fun r69 =>
      (erun Tryz.prog (Builtin.append_ #[91, 91] 91 #[r61.1, r69.1]) r69.2).bind fun r70 =>
      some (Res.norm [l1_1, out3_1, k4_1, r70.1] r70.2)
     else
      some (Res.norm [l1_1, out3_1, k4_1, r61.1] r61.2)).bind fun (r : Res) => r.cont fun vs_2 W3 =>
    let l1_2 := nth vs_2 0
    let out3_2 := nth vs_2 1
    let k4_2 := nth vs_2 2
    let row6_1 := nth vs_2 3
    (erun Tryz.prog (Instr.buildSlice 45 1 #[(0, row6_1)]) W3).bind fun r73 =>
    (erun Tryz.prog (Builtin.append_ #[45, 45] 45 #[out3_2, r73.1]) r73.2).bind fun r74 =>
    some (Res.norm [l1_2, r74.1, k4_2] r74.2)).bind fun (r : Res) => (r.unblock 1).cont fun vs_3 W4 =>
    let l1_3 := nth vs_3 0
    let out3_3 := nth vs_3 1
    let k4_3 := nth vs_3 2
    (bin .add k4_3 (Value.int IntKind.i64 1)).bind fun v25 =>
    some (Res.norm [l1_3, out3_3, v25] W4)
  else
  some (Res.exit 0 [out3] W1)
noncomputable def f17 (call : CallF) (l0 : Value) (W0 : World) : Option (Value × World) :=
  ((erun Tryz.prog (Instr.box 30 l0) W0).bind fun r1 =>
  ((prun Tryz.prog (Instr.fieldAt 30 r1.1 1)).bind fun v11 =>
  some (v11, r1.2.drew)).bind fun r11 =>
  ((rrun Tryz.prog (Instr.loadAt 27 r11.1) r11.2).bind fun v12 =>
  some (v12, r11.2)).bind fun r12 =>
  ((call 42 #[r12.1] r12.2).bind fun r13_1 =>
  some (r13_1.1, r13_1.2)).bind fun r13 =>
  ((prun Tryz.prog (Instr.fieldAt 30 r1.1 0)).bind fun v14 =>
  some (v14, r13.2)).bind fun r14 =>
  ((rrun Tryz.prog (Instr.loadAt 9 r14.1) r14.2).bind fun v15 =>
  some (v15, r14.2)).bind fun r15 =>
  ((call 43 #[r15.1] r15.2).bind fun r16_1 =>
  some (r16_1.1, r16_1.2)).bind fun r16 =>
  ((erun Tryz.prog (Instr.buildSlice 91 3 #[(0, (Value.string { data := #[108, 105, 115, 116] })), (1, r13.1), (2, r16.1)]) r16.2).bind fun r17_1 =>
  some (r17_1.1, r17_1.2)).bind fun r17 =>
  ((erun Tryz.prog (Instr.buildSlice 45 1 #[(0, r17.1)]) r17.2).bind fun r18_1 =>
  some (r18_1.1, r18_1.2)).bind fun r18 =>
  chkThen ((((rrun Tryz.prog (Instr.loadAt 9 r14.1) r12.2).bind fun v15_1 => some v15_1) = some r15.1 ∧ ((rrun Tryz.prog (Instr.loadAt 9 r14.1) r13.2).bind fun v15_2 => some v15_2) = some r15.1) ∧ True)
  ((iter (f17.l0 call) [r1.1, r18.1, (Value.int IntKind.i64 0)] r18.2).bind fun (r : Res) => (r.unblock 0).cont fun vs_4 W5 =>
  let out3_4 := nth vs_4 0
  some (Res.ret [out3_4] W5))).bind Res.done
theorem f17.eq (call dfr : CallF) (l0 : Value) (W0 : World) : aFun Tryz.prog call dfr Tryz.f17 f17.ann (ofArgs #[l0]) W0 = f17 call l0 W0 := by kernel_rfl

/-- dailies/cuts.Length -/
def f18.ann : Ann := (.s .z (.s (.s .z (.s .z (.c (.s .z .z) .z))) (.s .z (.s (.s .z (.b [5] (.l [5, 14, 15, 16] (.s .z (.s (.c .z .z) (.s (.b [5, 14, 15, 16] (.s .z .z)) .z)))))) (.s .z .z)))))
noncomputable def f18.l0 (call : CallF) (vs : List Value) (W1 : World) : Option Res :=
  let n5 := nth vs 0
  let v14_1 := nth vs 1
  let v15_1 := nth vs 2
  let v16 := nth vs 3
  (bin .lss v16 v15_1).bind fun v17 =>
  (asB v17).bind fun c17 =>
  if c17 then
    ((prun Tryz.prog (Instr.indexAt 28 v14_1 v16)).bind fun v18 =>
    (rrun Tryz.prog (Instr.loadAt 51 v18) W1).bind fun v19 =>
    (erun Tryz.prog (Instr.alloc 51 true (.tuple #[])) W1).bind fun r7 =>
    (erun Tryz.prog (Instr.storeAt 51 r7.1 v19) r7.2).bind fun r =>
    ((rrun Tryz.prog (Instr.loadAt 51 r7.1) r.2.drew).bind fun v21 =>
    some (v21, r.2.drew)).bind fun r21 =>
    ((call 46 #[r21.1] r21.2).bind fun r22_1 =>
    some (r22_1.1, r22_1.2)).bind fun r22 =>
    ((prun Tryz.prog (Instr.fieldAt 51 r7.1 3)).bind fun v23 =>
    some (v23, r22.2)).bind fun r23 =>
    ((rrun Tryz.prog (Instr.loadAt 3 r23.1) r23.2).bind fun v24 =>
    some (v24, r23.2)).bind fun r24 =>
    ((bin .sub r22.1 r24.1).bind fun v25 =>
    some (v25, r24.2)).bind fun r25 =>
    ((bin .add n5 r25.1).bind fun v26 =>
    some (v26, r25.2)).bind fun r26 =>
    chkThen ((((rrun Tryz.prog (Instr.loadAt 3 r23.1) r21.2).bind fun v24_1 => some v24_1) = some r24.1 ∧ ((rrun Tryz.prog (Instr.loadAt 3 r23.1) r22.2).bind fun v24_2 => some v24_2) = some r24.1) ∧ True)
    (some (Res.norm [r26.1, v14_1, v15_1, v16] r26.2))).bind fun (r : Res) => (r.unblock 1).cont fun vs_1 W2 =>
    let n5_1 := nth vs_1 0
    let v14_2 := nth vs_1 1
    let v15_2 := nth vs_1 2
    let v16_1 := nth vs_1 3
    (bin .add v16_1 (Value.int IntKind.i64 1)).bind fun v27 =>
    some (Res.norm [n5_1, v14_2, v15_2, v27] W2)
  else
  some (Res.exit 0 [n5] W1)
noncomputable def f18 (call : CallF) (l0 : Value) (W0 : World) : Option (Value × World) :=
  ((erun Tryz.prog (Instr.box 30 l0) W0).bind fun r1 =>
  (rrun Tryz.prog (Instr.loadAt 30 r1.1) r1.2).bind fun v8 =>
  (call 15 #[v8] r1.2).bind fun r9 =>
  (rrun Tryz.prog (do eqGuard .neq 32 (Operand.tmp 10) (Operand.const Value.nilIface) r9.1 Value.nilIface; binOp .neq 32 r9.1 Value.nilIface) r9.2).bind fun v11 =>
  (asB v11).bind fun c11 =>
  if c11 then
    some (Res.ret [(Value.int IntKind.i64 0), r9.1] r9.2)
  else
  (prun Tryz.prog (Instr.fieldAt 30 r1.1 2)).bind fun v13 =>
  (rrun Tryz.prog (Instr.loadAt 28 v13) r9.2).bind fun v14 =>
  (prun Tryz.prog (Builtin.len_ #[28] 3 #[v14])).bind fun v15 =>
  (iter (f18.l0 call) [(Value.int IntKind.i64 0), v14, v15, (Value.int IntKind.i64 0)] r9.2).bind fun (r : Res) => (r.unblock 0).cont fun vs_2 W3 =>
  let n5_2 := nth vs_2 0
  some (Res.ret [n5_2, Value.nilIface] W3)).bind Res.done
theorem f18.eq (call dfr : CallF) (l0 : Value) (W0 : World) : aFun Tryz.prog call dfr Tryz.f18 f18.ann (ofArgs #[l0]) W0 = f18 call l0 W0 := by kernel_rfl

/-- dailies/dailieslaw19.pick -/
def f19.ann : Ann := (.s .z (.s (.s .z (.j [0, 1] .z .z)) (.s .z .z)))
noncomputable def f19 (call : CallF) (c0 : Value) (n1 : Value) (W0 : World) : Option (Value × World) :=
  ((bin .lss c0 (Value.int IntKind.i64 0)).bind fun v6 =>
  (asB v6).bind fun c6 =>
  (if c6 then
    (bin .add c0 (Value.int IntKind.i64 1)).bind fun v8 =>
    (prun Tryz.prog (Op.unary .neg v8)).bind fun v9 =>
    some (Res.norm [v9, n1] W0)
   else
    some (Res.norm [c0, n1] W0)).bind fun (r : Res) => r.cont fun vs W1 =>
  let c0_1 := nth vs 0
  let n1_1 := nth vs 1
  (bin .rem c0_1 n1_1).bind fun v12 =>
  some (Res.ret [v12] W1)).bind Res.done
theorem f19.eq (call dfr : CallF) (c0 : Value) (n1 : Value) (W0 : World) : aFun Tryz.prog call dfr Tryz.f19 f19.ann (ofArgs #[c0, n1]) W0 = f19 call c0 n1 W0 := by kernel_rfl

/-- dailies/dailieslaw19.evented -/
def f20.ann : Ann := (.s .z (.s (.s .z (.c (.s .z .z) .z)) (.s (.s .z (.c (.s .z .z) .z)) (.s .z (.s .z (.s (.s .z (.c (.s .z .z) .z)) (.s .z (.s (.s .z (.c (.s .z .z) .z)) (.s .z (.s .z .z))))))))))
noncomputable def f20 (call : CallF) (err0 : Value) (event1 : Value) (e2 : Value) (W0 : World) : Option (Value × World) :=
  ((bin .eql e2 (Value.int IntKind.i64 0)).bind fun v13 =>
  (asB v13).bind fun c13 =>
  if c13 then
    (rrun Tryz.prog (do eqGuard .eql 32 (Operand.tmp 14) (Operand.const Value.nilIface) err0 Value.nilIface; binOp .eql 32 err0 Value.nilIface) W0).bind fun v15 =>
    some (Res.ret [v15] W0)
  else
  (rrun Tryz.prog (do eqGuard .eql 32 (Operand.tmp 16) (Operand.const Value.nilIface) err0 Value.nilIface; binOp .eql 32 err0 Value.nilIface) W0).bind fun v17 =>
  (asB v17).bind fun c17 =>
  if c17 then
    some (Res.ret [(Value.bool false)] W0)
  else
  (prun Tryz.prog (Instr.build 101 #[])).bind fun v18 =>
  (erun Tryz.prog (Instr.box 101 v18) W0).bind fun r19 =>
  (erun Tryz.prog (Instr.alloc 99 true (.tuple #[])) r19.2).bind fun r7 =>
  (erun Tryz.prog (Instr.storeAt 99 r7.1 r19.1) r7.2).bind fun r =>
  (prun Tryz.prog (Instr.makeInterface 102 r7.1)).bind fun v21 =>
  (call 34 #[err0, v21] r.2).bind fun r22 =>
  (prun Tryz.prog (Op.unary .not r22.1)).bind fun v24 =>
  (asB v24).bind fun b25 =>
  (if b25 = false then (rrun Tryz.prog (Instr.loadAt 99 r7.1) r22.2).bind fun v26 =>
    (rrun Tryz.prog (do eqGuard .eql 99 (Operand.tmp 26) (Operand.const (Value.pointer none)) v26 (Value.pointer none); binOp .eql 99 v26 (Value.pointer none)) r22.2).bind fun v27 =>
    some (v27, r22.2)
   else some ((Value.bool true), r22.2)).bind fun r28 =>
  (asB r28.1).bind fun c28 =>
  if c28 then
    some (Res.ret [(Value.bool false)] r28.2)
  else
  (prun Tryz.prog (Instr.makeInterface 35 e2)).bind fun v31 =>
  (call 22 #[err0, v31] r28.2).bind fun r32 =>
  (prun Tryz.prog (Op.unary .not r32.1)).bind fun v34 =>
  (asB v34).bind fun b35 =>
  (if b35 = false then (rrun Tryz.prog (Instr.loadAt 99 r7.1) r32.2).bind fun v36 =>
    (nilV Tryz.prog v36).bind fun v37 =>
    (prun Tryz.prog (Instr.fieldAt 101 v37 0)).bind fun v38 =>
    (rrun Tryz.prog (Instr.loadAt 3 v38) r32.2).bind fun v39 =>
    (bin .neq v39 event1).bind fun v41 =>
    some (v41, r32.2)
   else some ((Value.bool true), r32.2)).bind fun r42 =>
  (asB r42.1).bind fun b43 =>
  (if b43 = false then (rrun Tryz.prog (Instr.loadAt 99 r7.1) r42.2).bind fun v44 =>
    (nilV Tryz.prog v44).bind fun v45 =>
    (prun Tryz.prog (Instr.fieldAt 101 v45 1)).bind fun v46 =>
    (rrun Tryz.prog (Instr.loadAt 35 v46) r42.2).bind fun v47 =>
    (bin .neq v47 e2).bind fun v49 =>
    some (v49, r42.2)
   else some ((Value.bool true), r42.2)).bind fun r50 =>
  (asB r50.1).bind fun c50 =>
  if c50 then
    some (Res.ret [(Value.bool false)] r50.2)
  else
  (rrun Tryz.prog (Instr.loadAt 99 r7.1) r50.2).bind fun v52 =>
  (call 47 #[v52] r50.2).bind fun r53 =>
  (prun Tryz.prog (Instr.typeAssert r53.1 32 35 true)).bind fun v54 =>
  (prun Tryz.prog (Instr.extract v54 0)).bind fun v55 =>
  (prun Tryz.prog (Instr.extract v54 1)).bind fun v56 =>
  (imethod Tryz.prog err0 "Error" r53.2).bind fun m58 =>
  (call m58.1 #[m58.2] r53.2).bind fun r58 =>
  (call 48 #[event1] r58.2).bind fun r60 =>
  (prun Tryz.prog (do eqGuard .add 9 (Operand.const (Value.string { data := #[100, 97, 105, 108, 105, 101, 115, 58, 32, 101, 118, 101, 110, 116, 32] })) (Operand.tmp 60) (Value.string { data := #[100, 97, 105, 108, 105, 101, 115, 58, 32, 101, 118, 101, 110, 116, 32] }) r60.1; binOp .add 9 (Value.string { data := #[100, 97, 105, 108, 105, 101, 115, 58, 32, 101, 118, 101, 110, 116, 32] }) r60.1)).bind fun v61 =>
  (prun Tryz.prog (do eqGuard .add 9 (Operand.tmp 61) (Operand.const (Value.string { data := #[58, 32, 100, 97, 105, 108, 105, 101, 115, 58, 32, 101, 114, 114, 111, 114, 32] })) v61 (Value.string { data := #[58, 32, 100, 97, 105, 108, 105, 101, 115, 58, 32, 101, 114, 114, 111, 114, 32] }); binOp .add 9 v61 (Value.string { data := #[58, 32, 100, 97, 105, 108, 105, 101, 115, 58, 32, 101, 114, 114, 111, 114, 32] }))).bind fun v62 =>
  (call 48 #[e2] r60.2).bind fun r64 =>
  (prun Tryz.prog (do eqGuard .add 9 (Operand.tmp 62) (Operand.tmp 64) v62 r64.1; binOp .add 9 v62 r64.1)).bind fun v65 =>
  (prun Tryz.prog (do eqGuard .eql 9 (Operand.tmp 58) (Operand.tmp 65) r58.1 v65; binOp .eql 9 r58.1 v65)).bind fun v66 =>
  (asB v66).bind fun b67 =>
  (if b67 = true then some (v56, r64.2)
   else some ((Value.bool false), r64.2)).bind fun r69 =>
  (asB r69.1).bind fun b70 =>
  (if b70 = true then (bin .eql v55 e2).bind fun v73 =>
    some (v73, r69.2)
   else some ((Value.bool false), r69.2)).bind fun r74 =>
  some (Res.ret [r74.1] r74.2)).bind Res.done
theorem f20.eq (call dfr : CallF) (err0 : Value) (event1 : Value) (e2 : Value) (W0 : World) : aFun Tryz.prog call dfr Tryz.f20 f20.ann (ofArgs #[err0, event1, e2]) W0 = f20 call err0 event1 e2 W0 := by kernel_rfl

/-- dailies/cuts.Print -/
def f21.ann : Ann := (.s .z (.s (.s .z (.s .z (.c (.s .z .z) .z))) (.s .z (.s (.s .z (.b [5] (.l [1, 5, 24, 25, 26] (.s .z (.s (.c .z .z) (.s (.b [1, 5, 24, 25, 26] (.s .z .z)) .z)))))) (.s (.s .z (.c (.s .z .z) .z)) (.s .z .z))))))
noncomputable def f21.l0 (call : CallF) (vs : List Value) (W1 : World) : Option Res :=
  let l1 := nth vs 0
  let s5 := nth vs 1
  let v24_1 := nth vs 2
  let v25_1 := nth vs 3
  let v26 := nth vs 4
  (bin .lss v26 v25_1).bind fun v27 =>
  (asB v27).bind fun c27 =>
  if c27 then
    ((prun Tryz.prog (Instr.indexAt 28 v24_1 v26)).bind fun v28 =>
    (rrun Tryz.prog (Instr.loadAt 51 v28) W1).bind fun v29 =>
    (erun Tryz.prog (Instr.alloc 51 true (.tuple #[])) W1).bind fun r7 =>
    (erun Tryz.prog (Instr.storeAt 51 r7.1 v29) r7.2).bind fun r =>
    (rrun Tryz.prog (Instr.loadAt 51 r7.1) r.2).bind fun v31 =>
    (prun Tryz.prog (Instr.fieldAt 30 l1 1)).bind fun v32 =>
    (rrun Tryz.prog (Instr.loadAt 27 v32) r.2).bind fun v33 =>
    (call 51 #[v31, v33] r.2).bind fun r34 =>
    (prun Tryz.prog (do eqGuard .add 9 (Operand.tmp 30) (Operand.tmp 34) s5 r34.1; binOp .add 9 s5 r34.1)).bind fun v35 =>
    some (Res.norm [l1, v35, v24_1, v25_1, v26] r34.2)).bind fun (r : Res) => (r.unblock 1).cont fun vs_1 W2 =>
    let l1_1 := nth vs_1 0
    let s5_1 := nth vs_1 1
    let v24_2 := nth vs_1 2
    let v25_2 := nth vs_1 3
    let v26_1 := nth vs_1 4
    (bin .add v26_1 (Value.int IntKind.i64 1)).bind fun v36 =>
    some (Res.norm [l1_1, s5_1, v24_2, v25_2, v36] W2)
  else
  some (Res.exit 0 [s5] W1)
noncomputable def f21 (call : CallF) (l0 : Value) (W0 : World) : Option (Value × World) :=
  ((erun Tryz.prog (Instr.box 30 l0) W0).bind fun r1 =>
  (rrun Tryz.prog (Instr.loadAt 30 r1.1) r1.2).bind fun v8 =>
  (call 15 #[v8] r1.2).bind fun r9 =>
  (rrun Tryz.prog (do eqGuard .neq 32 (Operand.tmp 10) (Operand.const Value.nilIface) r9.1 Value.nilIface; binOp .neq 32 r9.1 Value.nilIface) r9.2).bind fun v11 =>
  (asB v11).bind fun c11 =>
  if c11 then
    some (Res.ret [(Value.string { data := #[] }), r9.1] r9.2)
  else
  ((prun Tryz.prog (Instr.fieldAt 30 r1.1 1)).bind fun v13 =>
  some (v13, r9.2.drew)).bind fun r13 =>
  ((rrun Tryz.prog (Instr.loadAt 27 r13.1) r13.2).bind fun v14 =>
  some (v14, r13.2)).bind fun r14 =>
  ((call 49 #[r14.1] r14.2).bind fun r15_1 =>
  some (r15_1.1, r15_1.2)).bind fun r15 =>
  ((prun Tryz.prog (do eqGuard .add 9 (Operand.const (Value.string { data := #[108, 105, 115, 116, 32] })) (Operand.tmp 15) (Value.string { data := #[108, 105, 115, 116, 32] }) r15.1; binOp .add 9 (Value.string { data := #[108, 105, 115, 116, 32] }) r15.1)).bind fun v16 =>
  some (v16, r15.2)).bind fun r16 =>
  ((prun Tryz.prog (do eqGuard .add 9 (Operand.tmp 16) (Operand.const (Value.string { data := #[32] })) r16.1 (Value.string { data := #[32] }); binOp .add 9 r16.1 (Value.string { data := #[32] }))).bind fun v17 =>
  some (v17, r16.2)).bind fun r17 =>
  ((prun Tryz.prog (Instr.fieldAt 30 r1.1 0)).bind fun v18 =>
  some (v18, r17.2)).bind fun r18 =>
  ((rrun Tryz.prog (Instr.loadAt 9 r18.1) r18.2).bind fun v19 =>
  some (v19, r18.2)).bind fun r19 =>
  ((call 50 #[r19.1] r19.2).bind fun r20_1 =>
  some (r20_1.1, r20_1.2)).bind fun r20 =>
  ((prun Tryz.prog (do eqGuard .add 9 (Operand.tmp 17) (Operand.tmp 20) r17.1 r20.1; binOp .add 9 r17.1 r20.1)).bind fun v21 =>
  some (v21, r20.2)).bind fun r21 =>
  ((prun Tryz.prog (do eqGuard .add 9 (Operand.tmp 21) (Operand.const (Value.string { data := #[10] })) r21.1 (Value.string { data := #[10] }); binOp .add 9 r21.1 (Value.string { data := #[10] }))).bind fun v22 =>
  some (v22, r21.2)).bind fun r22 =>
  chkThen ((((rrun Tryz.prog (Instr.loadAt 9 r18.1) r14.2).bind fun v19_1 => some v19_1) = some r19.1 ∧ ((rrun Tryz.prog (Instr.loadAt 9 r18.1) r15.2).bind fun v19_2 => some v19_2) = some r19.1) ∧ True)
  ((prun Tryz.prog (Instr.fieldAt 30 r1.1 2)).bind fun v23 =>
  (rrun Tryz.prog (Instr.loadAt 28 v23) r22.2).bind fun v24 =>
  (prun Tryz.prog (Builtin.len_ #[28] 3 #[v24])).bind fun v25 =>
  (iter (f21.l0 call) [r1.1, r22.1, v24, v25, (Value.int IntKind.i64 0)] r22.2).bind fun (r : Res) => (r.unblock 0).cont fun vs_2 W3 =>
  let s5_2 := nth vs_2 0
  (prun Tryz.prog (Builtin.len_ #[9] 3 #[s5_2])).bind fun v38 =>
  (bin .gtr v38 (Value.int IntKind.i64 20000)).bind fun v39 =>
  (asB v39).bind fun c39 =>
  if c39 then
    (call 38 #[(Value.int IntKind.i64 (-1)), (Value.int IntKind.i64 191)] W3).bind fun r40 =>
    some (Res.ret [(Value.string { data := #[] }), r40.1] r40.2)
  else
  some (Res.ret [s5_2, Value.nilIface] W3))).bind Res.done
theorem f21.eq (call dfr : CallF) (l0 : Value) (W0 : World) : aFun Tryz.prog call dfr Tryz.f21 f21.ann (ofArgs #[l0]) W0 = f21 call l0 W0 := by kernel_rfl

/-- errors.Is -/
def f22.ann : Ann := (.s .z (.s (.s .z (.c (.s .z .z) .z)) (.s .z (.s .z .z))))
noncomputable def f22 (call : CallF) (err0 : Value) (target1 : Value) (W0 : World) : Option (Value × World) :=
  ((rrun Tryz.prog (do eqGuard .eql 32 (Operand.tmp 6) (Operand.const Value.nilIface) err0 Value.nilIface; binOp .eql 32 err0 Value.nilIface) W0).bind fun v7 =>
  (asB v7).bind fun b8 =>
  (if b8 = false then (rrun Tryz.prog (do eqGuard .eql 32 (Operand.tmp 9) (Operand.const Value.nilIface) target1 Value.nilIface; binOp .eql 32 target1 Value.nilIface) W0).bind fun v10 =>
    some (v10, W0)
   else some ((Value.bool true), W0)).bind fun r11 =>
  (asB r11.1).bind fun c11 =>
  if c11 then
    (rrun Tryz.prog (do eqGuard .eql 32 (Operand.tmp 12) (Operand.tmp 13) err0 target1; binOp .eql 32 err0 target1) r11.2).bind fun v14 =>
    some (Res.ret [v14] r11.2)
  else
  (xrun Tryz.prog (callFunc 52 #[target1]) r11.2).bind fun r16 =>
  (imethod Tryz.prog r16.1 "Comparable" r16.2).bind fun m17 =>
  (call m17.1 #[m17.2] r16.2).bind fun r17 =>
  (call 53 #[err0, target1, r17.1] r17.2).bind fun r21 =>
  some (Res.ret [r21.1] r21.2)).bind Res.done
theorem f22.eq (call dfr : CallF) (err0 : Value) (target1 : Value) (W0 : World) : aFun Tryz.prog call dfr Tryz.f22 f22.ann (ofArgs #[err0, target1]) W0 = f22 call err0 target1 W0 := by kernel_rfl

/-- dailies/cuts.fault -/
def f23.ann : Ann := (.s .z (.s .z .z))
noncomputable def f23 (call : CallF) (at0 : Value) (e1 : Value) (W0 : World) : Option (Value × World) :=
  ((prun Tryz.prog (Instr.build 83 #[(0, at0), (1, e1)])).bind fun v7 =>
  (erun Tryz.prog (Instr.box 83 v7) W0).bind fun r8 =>
  (prun Tryz.prog (Instr.makeInterface 82 r8.1)).bind fun v9 =>
  some (Res.ret [v9] r8.2)).bind Res.done
theorem f23.eq (call dfr : CallF) (at0 : Value) (e1 : Value) (W0 : World) : aFun Tryz.prog call dfr Tryz.f23 f23.ann (ofArgs #[at0, e1]) W0 = f23 call at0 e1 W0 := by kernel_rfl

/-- dailies/cuts.unruly -/
def f24.ann : Ann := (.s .z (.s (.s .z (.b [] (.l [0, 8] (.s .z (.s (.c .z .z) (.b [0, 8] (.s .z (.s (.s .z (.c .z .z)) (.s .z (.s .z (.c (.s .z .z) .z))))))))))) (.s .z .z)))
noncomputable def f24.l0 (call : CallF) (vs : List Value) (W1 : World) : Option Res :=
  let s0_1 := nth vs 0
  let v8 := nth vs 1
  (erun Tryz.prog (Instr.next v8 true 0) W1).bind fun r9 =>
  (prun Tryz.prog (Instr.extract r9.1 0)).bind fun v10 =>
  (asB v10).bind fun c10 =>
  if c10 then
    ((prun Tryz.prog (Instr.extract r9.1 1)).bind fun v11 =>
    (prun Tryz.prog (Instr.extract r9.1 2)).bind fun v12 =>
    (bin .neq v12 (Value.int IntKind.i32 65533)).bind fun v14 =>
    (asB v14).bind fun c14 =>
    if c14 then
      some (Res.exit 1 [s0_1, v8] r9.2)
    else
    (prun Tryz.prog (Instr.sliceAt 9 s0_1 (some v11) none none)).bind fun v18 =>
    (call 54 #[v18] r9.2).bind fun r19 =>
    (prun Tryz.prog (Instr.extract r19.1 0)).bind fun v20 =>
    (prun Tryz.prog (Instr.extract r19.1 1)).bind fun v21 =>
    (bin .eql v21 (Value.int IntKind.i64 1)).bind fun v23 =>
    (asB v23).bind fun c23 =>
    if c23 then
      some (Res.ret [v11] r19.2)
    else
    some (Res.norm [s0_1, v8] r19.2)).bind fun (r : Res) => (r.unblock 1).cont fun vs_1 W2 =>
    let s0_2 := nth vs_1 0
    let v8_1 := nth vs_1 1
    some (Res.norm [s0_2, v8_1] W2)
  else
  some (Res.exit 0 [] r9.2)
noncomputable def f24 (call : CallF) (s0 : Value) (W0 : World) : Option (Value × World) :=
  ((erun Tryz.prog (Instr.range 9 s0) W0).bind fun r8 =>
  (iter (f24.l0 call) [s0, r8.1] r8.2).bind fun (r : Res) => (r.unblock 0).cont fun vs_2 W3 =>
  some (Res.ret [(Value.int IntKind.i64 (-1))] W3)).bind Res.done
theorem f24.eq (call dfr : CallF) (s0 : Value) (W0 : World) : aFun Tryz.prog call dfr Tryz.f24 f24.ann (ofArgs #[s0]) W0 = f24 call s0 W0 := by kernel_rfl

/-- strings.IndexByte -/
def f25.ann : Ann := (.s .z (.s .z .z))
noncomputable def f25 (call : CallF) (s0 : Value) (c1 : Value) (W0 : World) : Option (Value × World) :=
  ((call 55 #[s0, c1] W0).bind fun r7 =>
  some (Res.ret [r7.1] r7.2)).bind Res.done
theorem f25.eq (call dfr : CallF) (s0 : Value) (c1 : Value) (W0 : World) : aFun Tryz.prog call dfr Tryz.f25 f25.ann (ofArgs #[s0, c1]) W0 = f25 call s0 c1 W0 := by kernel_rfl

/-- dailies/cuts.words -/
def f26.ann : Ann := (.s .z (.s .z (.s (.b [2, 8] (.l [0, 1, 2, 8] (.s (.s .z (.c .z .z)) (.b [0, 1, 2, 8] (.s .z (.b [0, 1, 2, 8] (.s (.s .z (.j [0, 1, 2, 8, 17, 42] .z .z)) (.c .z (.s .z (.c (.s .z .z) (.s .z (.c (.s .z (.s .z (.s .z .z))) (.s .z (.s (.s .z (.j [0, 1, 2, 8, 11] .z .z)) (.s .z .z))))))))))))))) (.s .z .z))))
noncomputable def f26.l0 (call : CallF) (vs : List Value) (W1 : World) : Option Res :=
  let s0_1 := nth vs 0
  let at1_1 := nth vs 1
  let to2_1 := nth vs 2
  let l8 := nth vs 3
  (bin .lss at1_1 to2_1).bind fun v14 =>
  (asB v14).bind fun c14 =>
  if c14 then
    ((prun Tryz.prog (Instr.index 9 s0_1 at1_1)).bind fun v17 =>
    ((bin .eql v17 (Value.int IntKind.u8 32)).bind fun v43 =>
    (asB v43).bind fun c42 =>
    (if c42 then
      some (Res.norm [s0_1, at1_1, to2_1, l8, v17, v43] W1)
     else
      (bin .eql v17 (Value.int IntKind.u8 9)).bind fun v44 =>
      some (Res.norm [s0_1, at1_1, to2_1, l8, v17, v44] W1)).bind fun (r : Res) => r.cont fun vs_1 W2 =>
    let s0_2 := nth vs_1 0
    let at1_2 := nth vs_1 1
    let to2_2 := nth vs_1 2
    let l8_1 := nth vs_1 3
    let v17_1 := nth vs_1 4
    let v42 := nth vs_1 5
    (asB v42).bind fun c42_1 =>
    if c42_1 then
      (bin .add at1_2 (Value.int IntKind.i64 1)).bind fun v46 =>
      some (Res.norm [s0_2, v46, to2_2, l8_1] W2)
    else
    (bin .eql v17_1 (Value.int IntKind.u8 35)).bind fun v48 =>
    (asB v48).bind fun c47 =>
    if c47 then
      some (Res.ret [l8_1, at1_2] W2)
    else
    (bin .eql v17_1 (Value.int IntKind.u8 34)).bind fun v52 =>
    (asB v52).bind fun c51 =>
    if c51 then
      (prun Tryz.prog (Instr.sliceAt 9 s0_2 (some at1_2) (some to2_2) none)).bind fun v57 =>
      (call 56 #[v57] W2).bind fun r58 =>
      (prun Tryz.prog (Instr.extract r58.1 0)).bind fun v59 =>
      (prun Tryz.prog (Instr.extract r58.1 1)).bind fun v60 =>
      (erun Tryz.prog (Instr.alloc 114 true (.tuple #[])) r58.2).bind fun r9 =>
      (erun Tryz.prog (Instr.storeAt 114 r9.1 v59) r9.2).bind fun r =>
      (prun Tryz.prog (Instr.fieldAt 114 r9.1 0)).bind fun v62 =>
      (erun Tryz.prog (Instr.storeAt 3 v62 at1_2) r.2).bind fun r_1 =>
      (rrun Tryz.prog (Instr.loadAt 114 r9.1) r_1.2).bind fun v64 =>
      (erun Tryz.prog (Instr.buildSlice 62 1 #[(0, v64)]) r_1.2).bind fun r65 =>
      (erun Tryz.prog (Builtin.append_ #[62, 62] 62 #[l8_1, r65.1]) r65.2).bind fun r66 =>
      (bin .add at1_2 v60).bind fun v69 =>
      some (Res.norm [s0_2, v69, to2_2, r66.1] r66.2)
    else
    (prun Tryz.prog (Instr.sliceAt 9 s0_2 (some at1_2) (some to2_2) none)).bind fun v21 =>
    (call 57 #[v21, (Value.string { data := #[32, 9] })] W2).bind fun r22 =>
    (bin .lss r22.1 (Value.int IntKind.i64 0)).bind fun v24 =>
    (asB v24).bind fun c24 =>
    (if c24 then
      (bin .sub to2_2 at1_2).bind fun v27 =>
      some (Res.norm [s0_2, at1_2, to2_2, l8_1, v27] r22.2)
     else
      some (Res.norm [s0_2, at1_2, to2_2, l8_1, r22.1] r22.2)).bind fun (r : Res) => r.cont fun vs_2 W3 =>
    let s0_3 := nth vs_2 0
    let at1_3 := nth vs_2 1
    let to2_3 := nth vs_2 2
    let l8_2 := nth vs_2 3
    let n11 := nth vs_2 4
    (bin .add at1_3 n11).bind fun v34 =>
    (prun Tryz.prog (Instr.sliceAt 9 s0_3 (some at1_3) (some v34) none)).bind fun v35 =>
    (prun Tryz.prog (Instr.build 114 #[(0, at1_3), (1, v35)])).bind fun v36 =>
    (erun Tryz.prog (Instr.buildSlice 62 1 #[(0, v36)]) W3).bind fun r37 =>
    (erun Tryz.prog (Builtin.append_ #[62, 62] 62 #[l8_2, r37.1]) r37.2).bind fun r38 =>
    (bin .add at1_3 n11).bind fun v41 =>
    some (Res.norm [s0_3, v41, to2_3, r38.1] r38.2)).bind fun (r : Res) => (r.unblock 2).cont fun vs_3 W4 =>
    let s0_4 := nth vs_3 0
    let at1_4 := nth vs_3 1
    let to2_4 := nth vs_3 2
    let l8_3 := nth vs_3 3
    some (Res.norm [s0_4, at1_4, to2_4, l8_3] W4)).bind fun (r : Res) => (r.unblock 1).cont fun vs_4 W5 =>
    let s0_5 := nth vs_4 0
    let at1_5 := nth vs_4 1
    let to2_5 := nth vs_4 2
    let l8_4 := nth vs_4 3
    some (Res.norm [s0_5, at1_5, to2_5, l8_4] W5)
  else
  some (Res.exit 0 [to2_1, l8] W1)
noncomputable def f26 (call : CallF) (s0 : Value) (at1 : Value) (to2 : Value) (W0 : World) : Option (Value × World) :=
  ((iter (f26.l0 call) [s0, at1, to2, (Value.slice none 0 0)] W0).bind fun (r : Res) => (r.unblock 0).cont fun vs_5 W6 =>
  let to2_6 := nth vs_5 0
  let l8_5 := nth vs_5 1
  some (Res.ret [l8_5, to2_6] W6)).bind Res.done
theorem f26.eq (call dfr : CallF) (s0 : Value) (at1 : Value) (to2 : Value) (W0 : World) : aFun Tryz.prog call dfr Tryz.f26 f26.ann (ofArgs #[s0, at1, to2]) W0 = f26 call s0 at1 to2 W0 := by kernel_rfl

/-- (*dailies/cuts.reader).list -/
def f27.ann : Ann := (.s .z (.s (.s .z (.s .z (.c (.s .z .z) .z))) (.s .z (.s (.s .z (.c (.s .z .z) .z)) (.s .z (.s (.s .z (.c (.s .z .z) .z)) (.s .z .z)))))))
noncomputable def f27 (call : CallF) (r0 : Value) (W0 : World) : Option (Value × World) :=
  ((erun Tryz.prog (Instr.alloc 30 true (.tuple #[])) W0).bind fun r2 =>
  (call 58 #[r0, (.func (.func 59) #[] #[])] r2.2).bind fun r11 =>
  (prun Tryz.prog (Instr.extract r11.1 0)).bind fun v12 =>
  (prun Tryz.prog (Instr.extract r11.1 1)).bind fun v13 =>
  (erun Tryz.prog (Instr.alloc 114 true (.tuple #[])) r11.2).bind fun r4 =>
  (erun Tryz.prog (Instr.storeAt 114 r4.1 v12) r4.2).bind fun r =>
  (rrun Tryz.prog (do eqGuard .neq 32 (Operand.tmp 14) (Operand.const Value.nilIface) v13 Value.nilIface; binOp .neq 32 v13 Value.nilIface) r.2).bind fun v15 =>
  (asB v15).bind fun c15 =>
  if c15 then
    (prun Tryz.prog (Instr.build 30 #[])).bind fun v16 =>
    (erun Tryz.prog (Instr.storeAt 30 r2.1 v16) r.2).bind fun r_1 =>
    some (Res.ret [r2.1, v13] r_1.2)
  else
  (call 58 #[r0, (.func (.func 60) #[] #[])] r.2).bind fun r20 =>
  (prun Tryz.prog (Instr.extract r20.1 0)).bind fun v21 =>
  (prun Tryz.prog (Instr.extract r20.1 1)).bind fun v22 =>
  (erun Tryz.prog (Instr.alloc 114 true (.tuple #[])) r20.2).bind fun r6 =>
  (erun Tryz.prog (Instr.storeAt 114 r6.1 v21) r6.2).bind fun r_2 =>
  (rrun Tryz.prog (do eqGuard .neq 32 (Operand.tmp 23) (Operand.const Value.nilIface) v22 Value.nilIface; binOp .neq 32 v22 Value.nilIface) r_2.2).bind fun v24 =>
  (asB v24).bind fun c24 =>
  if c24 then
    (prun Tryz.prog (Instr.build 30 #[])).bind fun v25 =>
    (erun Tryz.prog (Instr.storeAt 30 r2.1 v25) r_2.2).bind fun r_3 =>
    some (Res.ret [r2.1, v22] r_3.2)
  else
  (call 62 #[r0, (Value.bool true)] r_2.2).bind fun r29 =>
  (prun Tryz.prog (Instr.extract r29.1 0)).bind fun v30 =>
  (prun Tryz.prog (Instr.extract r29.1 1)).bind fun v31 =>
  (erun Tryz.prog (Instr.alloc 114 true (.tuple #[])) r29.2).bind fun r8 =>
  (erun Tryz.prog (Instr.storeAt 114 r8.1 v30) r8.2).bind fun r_4 =>
  (rrun Tryz.prog (do eqGuard .neq 32 (Operand.tmp 32) (Operand.const Value.nilIface) v31 Value.nilIface; binOp .neq 32 v31 Value.nilIface) r_4.2).bind fun v33 =>
  (asB v33).bind fun c33 =>
  if c33 then
    (prun Tryz.prog (Instr.build 30 #[])).bind fun v34 =>
    (erun Tryz.prog (Instr.storeAt 30 r2.1 v34) r_4.2).bind fun r_5 =>
    some (Res.ret [r2.1, v31] r_5.2)
  else
  ((prun Tryz.prog (Instr.fieldAt 114 r8.1 1)).bind fun v36 =>
  some (v36, r_4.2.drew)).bind fun r36 =>
  ((rrun Tryz.prog (Instr.loadAt 9 r36.1) r36.2).bind fun v37 =>
  some (v37, r36.2)).bind fun r37 =>
  ((prun Tryz.prog (Instr.fieldAt 114 r6.1 1)).bind fun v38 =>
  some (v38, r37.2)).bind fun r38 =>
  ((rrun Tryz.prog (Instr.loadAt 9 r38.1) r38.2).bind fun v39 =>
  some (v39, r38.2)).bind fun r39 =>
  ((call 61 #[r39.1] r39.2).bind fun r40_1 =>
  some (r40_1.1, r40_1.2)).bind fun r40 =>
  ((prun Tryz.prog (Instr.build 30 #[(0, r37.1), (1, r40.1)])).bind fun v41 =>
  some (v41, r40.2)).bind fun r41 =>
  ((call 63 #[r0] r41.2).bind fun r43_1 =>
  some (r43_1.1, r43_1.2)).bind fun r43 =>
  ((erun Tryz.prog (Instr.storeAt 30 r2.1 r41.1) r43.2).bind fun r_7 =>
  some (undef, r_7.2)).bind fun r_6 =>
  chkThen ((((rrun Tryz.prog (Instr.loadAt 9 r36.1) r39.2).bind fun v37_3 => some v37_3) = some r37.1 ∧ ((rrun Tryz.prog (Instr.loadAt 9 r36.1) r40.2).bind fun v37_4 => some v37_4) = some r37.1) ∧ (((rrun Tryz.prog (Instr.loadAt 9 r36.1) r41.2).bind fun v37_1 => some v37_1) = some r37.1 ∧ ((rrun Tryz.prog (Instr.loadAt 9 r36.1) r43.2).bind fun v37_2 => some v37_2) = some r37.1) ∧ True)
  (some (Res.ret [r2.1, r43.1] r_6.2))).bind (Res.doneR Tryz.prog [.cell 2 30, .tmp 3])
theorem f27.eq (call dfr : CallF) (r0 : Value) (W0 : World) : aFun Tryz.prog call dfr Tryz.f27 f27.ann (ofArgs #[r0]) W0 = f27 call r0 W0 := by kernel_rfl

/-- (*dailies/cuts.reader).event -/
def f28.ann : Ann := (.s .z (.s (.s .z (.c (.s .z .z) .z)) (.s .z (.s .z (.s (.s .z (.c (.s .z .z) .z)) (.s (.s .z (.j [0, 1, 5, 6] (.s .z (.s (.s .z (.c (.s .z .z) .z)) .z)) .z)) (.s .z (.s (.s .z (.c (.s .z .z) .z)) (.s .z (.s (.s .z (.s .z (.c (.s .z .z) .z))) (.s .z (.s (.s .z (.s .z (.c (.s .z .z) .z))) (.s (.s .z (.j [0, 1, 5, 6, 11] (.s .z (.s (.s .z (.c (.s .z .z) .z)) .z)) .z)) (.s (.s .z (.s .z (.c (.s .z .z) .z))) (.s .z (.s (.s .z (.b [] (.s .z (.c (.s .z .z) (.s .z (.c (.s .z .z) .z)))))) (.s .z .z)))))))))))))))))
noncomputable def f28 (call : CallF) (t0 : Value) (o1 : Value) (W0 : World) : Option (Value × World) :=
  ((nilV Tryz.prog o1).bind fun v17 =>
  (prun Tryz.prog (Instr.fieldAt 30 v17 2)).bind fun v18 =>
  (rrun Tryz.prog (Instr.loadAt 28 v18) W0).bind fun v19 =>
  (prun Tryz.prog (Builtin.len_ #[28] 3 #[v19])).bind fun v20 =>
  (bin .eql v20 (Value.int IntKind.i64 200)).bind fun v21 =>
  (asB v21).bind fun c21 =>
  if c21 then
    (nilV Tryz.prog t0).bind fun v23 =>
    (prun Tryz.prog (Instr.fieldAt 64 v23 0)).bind fun v24 =>
    (rrun Tryz.prog (Instr.loadAt 62 v24) W0).bind fun v25 =>
    (prun Tryz.prog (Instr.indexAt 62 v25 (Value.int IntKind.i64 0))).bind fun v26 =>
    (prun Tryz.prog (Instr.fieldAt 114 v26 0)).bind fun v27 =>
    (rrun Tryz.prog (Instr.loadAt 3 v27) W0).bind fun v28 =>
    (call 23 #[v28, (Value.int IntKind.i64 196)] W0).bind fun r29 =>
    some (Res.ret [r29.1] r29.2)
  else
  (erun Tryz.prog (Instr.alloc 51 true (.tuple #[])) W0).bind fun r5 =>
  (call 58 #[t0, (.func (.func 64) #[] #[])] r5.2).bind fun r32 =>
  (prun Tryz.prog (Instr.extract r32.1 0)).bind fun v33 =>
  (prun Tryz.prog (Instr.extract r32.1 1)).bind fun v34 =>
  (erun Tryz.prog (Instr.alloc 114 true (.tuple #[])) r32.2).bind fun r6 =>
  (erun Tryz.prog (Instr.storeAt 114 r6.1 v33) r6.2).bind fun r =>
  (rrun Tryz.prog (do eqGuard .neq 32 (Operand.tmp 35) (Operand.const Value.nilIface) v34 Value.nilIface; binOp .neq 32 v34 Value.nilIface) r.2).bind fun v36 =>
  (asB v36).bind fun c36 =>
  if c36 then
    some (Res.ret [v34] r.2)
  else
  (prun Tryz.prog (Instr.fieldAt 114 r6.1 1)).bind fun v38 =>
  (rrun Tryz.prog (Instr.loadAt 9 v38) r.2).bind fun v39 =>
  (prun Tryz.prog (do eqGuard .eql 9 (Operand.tmp 39) (Operand.const (Value.string { data := #[102, 97, 100, 101] })) v39 (Value.string { data := #[102, 97, 100, 101] }); binOp .eql 9 v39 (Value.string { data := #[102, 97, 100, 101] }))).bind fun v40 =>
  (asB v40).bind fun c40 =>
  (if c40 then
    (call 58 #[t0, (.func (.func 65) #[] #[])] r.2).bind fun r43 =>
    (prun Tryz.prog (Instr.extract r43.1 0)).bind fun v44 =>
    (prun Tryz.prog (Instr.extract r43.1 1)).bind fun v45 =>
    (erun Tryz.prog (Instr.alloc 114 true (.tuple #[])) r43.2).bind fun r8 =>
    (erun Tryz.prog (Instr.storeAt 114 r8.1 v44) r8.2).bind fun r_1 =>
    (rrun Tryz.prog (do eqGuard .neq 32 (Operand.tmp 46) (Operand.const Value.nilIface) v45 Value.nilIface; binOp .neq 32 v45 Value.nilIface) r_1.2).bind fun v47 =>
    (asB v47).bind fun c47 =>
    if c47 then
      some (Res.ret [v45] r_1.2)
    else
    (prun Tryz.prog (Instr.fieldAt 114 r8.1 1)).bind fun v50 =>
    (rrun Tryz.prog (Instr.loadAt 9 v50) r_1.2).bind fun v51 =>
    (call 66 #[v51] r_1.2).bind fun r52 =>
    (prun Tryz.prog (Instr.extract r52.1 0)).bind fun v53 =>
    (prun Tryz.prog (Instr.extract r52.1 1)).bind fun v54 =>
    (prun Tryz.prog (Instr.fieldAt 51 r5.1 3)).bind fun v55 =>
    (erun Tryz.prog (Instr.storeAt 3 v55 v53) r52.2).bind fun r_2 =>
    some (Res.norm [t0, o1, r5.1, r6.1] r_2.2)
   else
    some (Res.norm [t0, o1, r5.1, r6.1] r.2)).bind fun (r : Res) => r.cont fun vs W1 =>
  let t0_1 := nth vs 0
  let o1_1 := nth vs 1
  let a5 := nth vs 2
  let y6 := nth vs 3
  (call 58 #[t0_1, (.func (.func 67) #[] #[])] W1).bind fun r58 =>
  (prun Tryz.prog (Instr.extract r58.1 0)).bind fun v59 =>
  (prun Tryz.prog (Instr.extract r58.1 1)).bind fun v60 =>
  (erun Tryz.prog (Instr.alloc 114 true (.tuple #[])) r58.2).bind fun r10 =>
  (erun Tryz.prog (Instr.storeAt 114 r10.1 v59) r10.2).bind fun r_3 =>
  (rrun Tryz.prog (do eqGuard .neq 32 (Operand.tmp 61) (Operand.const Value.nilIface) v60 Value.nilIface; binOp .neq 32 v60 Value.nilIface) r_3.2).bind fun v62 =>
  (asB v62).bind fun c62 =>
  if c62 then
    some (Res.ret [v60] r_3.2)
  else
  (prun Tryz.prog (Instr.fieldAt 114 r10.1 1)).bind fun v64 =>
  (rrun Tryz.prog (Instr.loadAt 9 v64) r_3.2).bind fun v65 =>
  (prun Tryz.prog (Instr.fieldAt 51 a5 0)).bind fun v66 =>
  (erun Tryz.prog (Instr.storeAt 9 v66 v65) r_3.2).bind fun r_4 =>
  (nilV Tryz.prog o1_1).bind fun v70 =>
  (prun Tryz.prog (Instr.fieldAt 30 v70 1)).bind fun v71 =>
  (rrun Tryz.prog (Instr.loadAt 27 v71) r_4.2).bind fun v72 =>
  (call 68 #[t0_1, v72] r_4.2).bind fun r73 =>
  (prun Tryz.prog (Instr.extract r73.1 0)).bind fun v74 =>
  (prun Tryz.prog (Instr.extract r73.1 1)).bind fun v75 =>
  (prun Tryz.prog (Instr.extract r73.1 2)).bind fun v76 =>
  (prun Tryz.prog (Instr.fieldAt 51 a5 1)).bind fun v77 =>
  (erun Tryz.prog (Instr.storeAt 3 v77 v74) r73.2).bind fun r_5 =>
  (rrun Tryz.prog (do eqGuard .neq 32 (Operand.tmp 78) (Operand.const Value.nilIface) v76 Value.nilIface; binOp .neq 32 v76 Value.nilIface) r_5.2).bind fun v79 =>
  (asB v79).bind fun c79 =>
  if c79 then
    some (Res.ret [v76] r_5.2)
  else
  (prun Tryz.prog (Instr.build 114 #[])).bind fun v81 =>
  (erun Tryz.prog (Instr.alloc 114 true (.tuple #[])) r_5.2).bind fun r11 =>
  (erun Tryz.prog (Instr.storeAt 114 r11.1 v81) r11.2).bind fun r_6 =>
  (nilV Tryz.prog o1_1).bind fun v85 =>
  (prun Tryz.prog (Instr.fieldAt 30 v85 1)).bind fun v86 =>
  (rrun Tryz.prog (Instr.loadAt 27 v86) r_6.2).bind fun v87 =>
  (call 68 #[t0_1, v87] r_6.2).bind fun r88 =>
  (prun Tryz.prog (Instr.extract r88.1 0)).bind fun v89 =>
  (prun Tryz.prog (Instr.extract r88.1 1)).bind fun v90 =>
  (prun Tryz.prog (Instr.extract r88.1 2)).bind fun v91 =>
  (prun Tryz.prog (Instr.fieldAt 51 a5 2)).bind fun v92 =>
  (erun Tryz.prog (Instr.storeAt 3 v92 v89) r88.2).bind fun r_7 =>
  (erun Tryz.prog (Instr.storeAt 114 r11.1 v90) r_7.2).bind fun r_8 =>
  (rrun Tryz.prog (do eqGuard .neq 32 (Operand.tmp 93) (Operand.const Value.nilIface) v91 Value.nilIface; binOp .neq 32 v91 Value.nilIface) r_8.2).bind fun v94 =>
  (asB v94).bind fun c94 =>
  if c94 then
    some (Res.ret [v91] r_8.2)
  else
  (nilV Tryz.prog t0_1).bind fun v97 =>
  (prun Tryz.prog (Instr.fieldAt 64 v97 0)).bind fun v98 =>
  (rrun Tryz.prog (Instr.loadAt 62 v98) r_8.2).bind fun v99 =>
  (prun Tryz.prog (Builtin.len_ #[62] 3 #[v99])).bind fun v100 =>
  (bin .gtr v100 (Value.int IntKind.i64 0)).bind fun v101 =>
  (asB v101).bind fun c101 =>
  (if c101 then
    (call 62 #[t0_1, (Value.bool true)] r_8.2).bind fun r104 =>
    (prun Tryz.prog (Instr.extract r104.1 0)).bind fun v105 =>
    (prun Tryz.prog (Instr.extract r104.1 1)).bind fun v106 =>
    (erun Tryz.prog (Instr.alloc 114 true (.tuple #[])) r104.2).bind fun r12 =>
    (erun Tryz.prog (Instr.storeAt 114 r12.1 v105) r12.2).bind fun r_9 =>
    (rrun Tryz.prog (do eqGuard .neq 32 (Operand.tmp 107) (Operand.const Value.nilIface) v106 Value.nilIface; binOp .neq 32 v106 Value.nilIface) r_9.2).bind fun v108 =>
    (asB v108).bind fun c108 =>
    if c108 then
      some (Res.ret [v106] r_9.2)
    else
    (prun Tryz.prog (Instr.fieldAt 114 r12.1 1)).bind fun v110 =>
    (rrun Tryz.prog (Instr.loadAt 9 v110) r_9.2).bind fun v111 =>
    (prun Tryz.prog (Instr.fieldAt 51 a5 4)).bind fun v112 =>
    (erun Tryz.prog (Instr.storeAt 9 v112 v111) r_9.2).bind fun r_10 =>
    some (Res.norm [t0_1, o1_1, a5, y6, r11.1] r_10.2)
   else
    some (Res.norm [t0_1, o1_1, a5, y6, r11.1] r_8.2)).bind fun (r : Res) => r.cont fun vs_1 W2 =>
  let t0_2 := nth vs_1 0
  let o1_2 := nth vs_1 1
  let a5_1 := nth vs_1 2
  let y6_1 := nth vs_1 3
  let v11 := nth vs_1 4
  (call 63 #[t0_2] W2).bind fun r114 =>
  (rrun Tryz.prog (do eqGuard .neq 32 (Operand.tmp 115) (Operand.const Value.nilIface) r114.1 Value.nilIface; binOp .neq 32 r114.1 Value.nilIface) r114.2).bind fun v116 =>
  (asB v116).bind fun c116 =>
  if c116 then
    some (Res.ret [r114.1] r114.2)
  else
  ((nilV Tryz.prog o1_2).bind fun v120 =>
  some (v120, r114.2.drew)).bind fun r120 =>
  ((prun Tryz.prog (Instr.fieldAt 30 r120.1 2)).bind fun v121 =>
  some (v121, r120.2)).bind fun r121 =>
  ((rrun Tryz.prog (Instr.loadAt 28 r121.1) r121.2).bind fun v122 =>
  some (v122, r121.2)).bind fun r122 =>
  ((rrun Tryz.prog (Instr.loadAt 51 a5_1) r122.2).bind fun v123 =>
  some (v123, r122.2)).bind fun r123 =>
  ((erun Tryz.prog (Instr.buildSlice 28 1 #[(0, r123.1)]) r123.2).bind fun r124_1 =>
  some (r124_1.1, r124_1.2)).bind fun r124 =>
  ((erun Tryz.prog (Builtin.append_ #[28, 28] 28 #[r122.1, r124.1]) r124.2).bind fun r125_1 =>
  some (r125_1.1, r125_1.2)).bind fun r125 =>
  ((nilV Tryz.prog o1_2).bind fun v126 =>
  some (v126, r125.2)).bind fun r126 =>
  ((prun Tryz.prog (Instr.fieldAt 30 r126.1 2)).bind fun v127 =>
  some (v127, r126.2)).bind fun r127 =>
  ((erun Tryz.prog (Instr.storeAt 28 r127.1 r125.1) r127.2).bind fun r_12 =>
  some (undef, r_12.2)).bind fun r_11 =>
  chkThen ((((rrun Tryz.prog (Instr.loadAt 28 r121.1) r123.2).bind fun v122_1 => some v122_1) = some r122.1 ∧ ((rrun Tryz.prog (Instr.loadAt 28 r121.1) r124.2).bind fun v122_2 => some v122_2) = some r122.1) ∧ True)
  ((nilV Tryz.prog o1_2).bind fun v129 =>
  (rrun Tryz.prog (Instr.loadAt 30 v129) r_11.2).bind fun v130 =>
  (call 15 #[v130] r_11.2).bind fun r131 =>
  ((prun Tryz.prog (Instr.makeInterface 35 (Value.int IntKind.i64 194))).bind fun v134 =>
  (call 22 #[r131.1, v134] r131.2).bind fun r135 =>
  (asB r135.1).bind fun c132 =>
  if c132 then
    (prun Tryz.prog (Instr.fieldAt 114 v11 0)).bind fun v136 =>
    (rrun Tryz.prog (Instr.loadAt 3 v136) r135.2).bind fun v137 =>
    (call 23 #[v137, (Value.int IntKind.i64 194)] r135.2).bind fun r138 =>
    some (Res.ret [r138.1] r138.2)
  else
  (rrun Tryz.prog (do eqGuard .neq 32 (Operand.tmp 140) (Operand.const Value.nilIface) r131.1 Value.nilIface; binOp .neq 32 r131.1 Value.nilIface) r135.2).bind fun v141 =>
  (asB v141).bind fun c139 =>
  if c139 then
    (prun Tryz.prog (Instr.fieldAt 114 y6_1 0)).bind fun v142 =>
    (rrun Tryz.prog (Instr.loadAt 3 v142) r135.2).bind fun v143 =>
    (call 23 #[v143, (Value.int IntKind.i64 195)] r135.2).bind fun r144 =>
    some (Res.ret [r144.1] r144.2)
  else
  some (Res.norm [] r135.2)).bind fun (r : Res) => (r.unblock 0).cont fun vs_2 W3 =>
  some (Res.ret [Value.nilIface] W3))).bind Res.done
theorem f28.eq (call dfr : CallF) (t0 : Value) (o1 : Value) (W0 : World) : aFun Tryz.prog call dfr Tryz.f28 f28.ann (ofArgs #[t0, o1]) W0 = f28 call t0 o1 W0 := by kernel_rfl

/-- dailies/dailiesref19.bad -/
def f29.ann : Ann := (.s .z (.s .z (.s (.b [] (.l [0, 3] (.s (.s .z (.c .z .z)) (.b [0, 3] (.s .z (.s (.s .z (.c (.s .z .z) .z)) .z)))))) (.s .z .z))))
noncomputable def f29.l0 (call : CallF) (vs : List Value) (W1 : World) : Option Res :=
  let s0_1 := nth vs 0
  let i3 := nth vs 1
  (prun Tryz.prog (Builtin.len_ #[9] 3 #[s0_1])).bind fun v7 =>
  (bin .lss i3 v7).bind fun v8 =>
  (asB v8).bind fun c8 =>
  if c8 then
    ((call 69 #[s0_1, i3] W1).bind fun r11 =>
    (bin .eql r11.1 (Value.int IntKind.i64 0)).bind fun v13 =>
    (asB v13).bind fun c13 =>
    if c13 then
      some (Res.ret [i3] r11.2)
    else
    (bin .add i3 r11.1).bind fun v17 =>
    some (Res.norm [s0_1, v17] r11.2)).bind fun (r : Res) => (r.unblock 1).cont fun vs_1 W2 =>
    let s0_2 := nth vs_1 0
    let i3_1 := nth vs_1 1
    some (Res.norm [s0_2, i3_1] W2)
  else
  some (Res.exit 0 [] W1)
noncomputable def f29 (call : CallF) (s0 : Value) (W0 : World) : Option (Value × World) :=
  ((iter (f29.l0 call) [s0, (Value.int IntKind.i64 0)] W0).bind fun (r : Res) => (r.unblock 0).cont fun vs_2 W3 =>
  some (Res.ret [(Value.int IntKind.i64 (-1))] W3)).bind Res.done
theorem f29.eq (call dfr : CallF) (s0 : Value) (W0 : World) : aFun Tryz.prog call dfr Tryz.f29 f29.ann (ofArgs #[s0]) W0 = f29 call s0 W0 := by kernel_rfl

/-- dailies/dailiesref19.line -/
def f30.ann : Ann := (.s .z (.s .z (.s .z (.s .z (.s (.b [0, 7, 8, 9] (.l [0, 7, 8, 9] (.s (.s .z (.c .z .z)) (.b [0, 7, 8, 9] (.s (.s .z (.c (.s .z .z) .z)) (.s (.s .z (.c (.s .z .z) .z)) (.s (.s .z (.c (.s .z (.s .z (.s .z (.s (.s .z (.c .z .z)) .z)))) .z)) (.s .z (.s (.b [0, 7, 8, 9, 12] (.l [0, 7, 8, 9, 12] (.s (.s .z (.c .z .z)) (.b [0, 7, 8, 9, 12] .z)))) .z))))))))) (.s (.b [7, 8, 9] (.l [0, 7, 8, 9] (.s (.s .z (.c .z .z)) (.b [0, 7, 8, 9] .z)))) (.s (.s .z (.j [7, 8, 9] .z .z)) (.s .z .z))))))))
noncomputable def f30.l0 (call : CallF) (vs_1 : List Value) (W2 : World) : Option Res :=
  let s0_2 := nth vs_1 0
  let l7_1 := nth vs_1 1
  let i8_1 := nth vs_1 2
  let end9_1 := nth vs_1 3
  let from12 := nth vs_1 4
  (prun Tryz.prog (Builtin.len_ #[9] 3 #[s0_2])).bind fun v62 =>
  (bin .lss i8_1 v62).bind fun v63 =>
  (asB v63).bind fun b64 =>
  (if b64 = true then (prun Tryz.prog (Instr.index 9 s0_2 i8_1)).bind fun v67 =>
    (bin .neq v67 (Value.int IntKind.u8 10)).bind fun v68 =>
    some (v68, W2)
   else some ((Value.bool false), W2)).bind fun r69 =>
  (asB r69.1).bind fun b70 =>
  (if b70 = true then (prun Tryz.prog (Instr.index 9 s0_2 i8_1)).bind fun v73 =>
    (bin .neq v73 (Value.int IntKind.u8 32)).bind fun v74 =>
    some (v74, r69.2)
   else some ((Value.bool false), r69.2)).bind fun r75 =>
  (asB r75.1).bind fun b76 =>
  (if b76 = true then (prun Tryz.prog (Instr.index 9 s0_2 i8_1)).bind fun v79 =>
    (bin .neq v79 (Value.int IntKind.u8 9)).bind fun v80 =>
    some (v80, r75.2)
   else some ((Value.bool false), r75.2)).bind fun r81 =>
  (asB r81.1).bind fun c81 =>
  if c81 then
    ((bin .add i8_1 (Value.int IntKind.i64 1)).bind fun v83 =>
    some (Res.norm [s0_2, l7_1, v83, end9_1, from12] r81.2)).bind fun (r : Res) => (r.unblock 3).cont fun vs_2 W3 =>
    let s0_3 := nth vs_2 0
    let l7_2 := nth vs_2 1
    let i8_2 := nth vs_2 2
    let end9_2 := nth vs_2 3
    let from12_1 := nth vs_2 4
    some (Res.norm [s0_3, l7_2, i8_2, end9_2, from12_1] W3)
  else
  some (Res.exit 2 [s0_2, l7_1, i8_1, end9_1, from12] r81.2)
noncomputable def f30.l1 (call : CallF) (vs : List Value) (W1 : World) : Option Res :=
  let s0_1 := nth vs 0
  let l7 := nth vs 1
  let i8 := nth vs 2
  let end9 := nth vs 3
  (prun Tryz.prog (Builtin.len_ #[9] 3 #[s0_1])).bind fun v16 =>
  (bin .lss i8 v16).bind fun v17 =>
  (asB v17).bind fun b18 =>
  (if b18 = true then (prun Tryz.prog (Instr.index 9 s0_1 i8)).bind fun v21 =>
    (bin .neq v21 (Value.int IntKind.u8 10)).bind fun v22 =>
    some (v22, W1)
   else some ((Value.bool false), W1)).bind fun r23 =>
  (asB r23.1).bind fun c23 =>
  if c23 then
    ((prun Tryz.prog (Instr.index 9 s0_1 i8)).bind fun v26 =>
    (bin .eql v26 (Value.int IntKind.u8 32)).bind fun v27 =>
    (asB v27).bind fun b28 =>
    (if b28 = false then (prun Tryz.prog (Instr.index 9 s0_1 i8)).bind fun v31 =>
      (bin .eql v31 (Value.int IntKind.u8 9)).bind fun v32 =>
      some (v32, r23.2)
     else some ((Value.bool true), r23.2)).bind fun r33 =>
    (asB r33.1).bind fun c33 =>
    if c33 then
      (bin .add i8 (Value.int IntKind.i64 1)).bind fun v35 =>
      some (Res.exit 1 [s0_1, l7, v35, end9] r33.2)
    else
    (prun Tryz.prog (Instr.index 9 s0_1 i8)).bind fun v38 =>
    (bin .eql v38 (Value.int IntKind.u8 35)).bind fun v39 =>
    (asB v39).bind fun c39 =>
    if c39 then
      some (Res.exit 0 [s0_1, l7, i8, i8] r33.2)
    else
    (prun Tryz.prog (Instr.index 9 s0_1 i8)).bind fun v43 =>
    (bin .eql v43 (Value.int IntKind.u8 34)).bind fun v44 =>
    (asB v44).bind fun c44 =>
    if c44 then
      (call 70 #[s0_1, i8] r33.2).bind fun r48 =>
      (prun Tryz.prog (Instr.extract r48.1 0)).bind fun v49 =>
      (prun Tryz.prog (Instr.extract r48.1 1)).bind fun v50 =>
      (erun Tryz.prog (Instr.alloc 74 true (.tuple #[])) r48.2).bind fun r10 =>
      (erun Tryz.prog (Instr.storeAt 74 r10.1 v49) r10.2).bind fun r =>
      (rrun Tryz.prog (Instr.loadAt 74 r10.1) r.2).bind fun v52 =>
      (erun Tryz.prog (Instr.buildSlice 70 1 #[(0, v52)]) r.2).bind fun r53 =>
      (erun Tryz.prog (Builtin.append_ #[70, 70] 70 #[l7, r53.1]) r53.2).bind fun r54 =>
      (prun Tryz.prog (Instr.fieldAt 74 r10.1 3)).bind fun v56 =>
      (rrun Tryz.prog (Instr.loadAt 4 v56) r54.2).bind fun v57 =>
      (prun Tryz.prog (Op.unary .not v57)).bind fun v58 =>
      (asB v58).bind fun c58 =>
      if c58 then
        some (Res.exit 0 [s0_1, r54.1, v50, end9] r54.2)
      else
      some (Res.exit 1 [s0_1, r54.1, v50, end9] r54.2)
    else
    (iter (f30.l0 call) [s0_1, l7, i8, end9, i8] r33.2).bind fun (r : Res) => (r.unblock 2).cont fun vs_3 W4 =>
    let s0_4 := nth vs_3 0
    let l7_3 := nth vs_3 1
    let i8_3 := nth vs_3 2
    let end9_3 := nth vs_3 3
    let from12_2 := nth vs_3 4
    (prun Tryz.prog (Instr.sliceAt 9 s0_4 (some from12_2) (some i8_3) none)).bind fun v89 =>
    (prun Tryz.prog (Instr.build 74 #[(0, from12_2), (2, v89), (3, (Value.bool true))])).bind fun v90 =>
    (erun Tryz.prog (Instr.buildSlice 70 1 #[(0, v90)]) W4).bind fun r91 =>
    (erun Tryz.prog (Builtin.append_ #[70, 70] 70 #[l7_3, r91.1]) r91.2).bind fun r92 =>
    some (Res.norm [s0_4, r92.1, i8_3, end9_3] r92.2)).bind fun (r : Res) => (r.unblock 1).cont fun vs_4 W5 =>
    let s0_5 := nth vs_4 0
    let l7_4 := nth vs_4 1
    let i8_4 := nth vs_4 2
    let end9_4 := nth vs_4 3
    some (Res.norm [s0_5, l7_4, i8_4, end9_4] W5)
  else
  some (Res.exit 0 [s0_1, l7, i8, end9] r23.2)
noncomputable def f30.l2 (call : CallF) (vs_6 : List Value) (W7 : World) : Option Res :=
  let s0_7 := nth vs_6 0
  let l7_6 := nth vs_6 1
  let i8_6 := nth vs_6 2
  let end9_6 := nth vs_6 3
  (prun Tryz.prog (Builtin.len_ #[9] 3 #[s0_7])).bind fun v95 =>
  (bin .lss i8_6 v95).bind fun v96 =>
  (asB v96).bind fun b97 =>
  (if b97 = true then (prun Tryz.prog (Instr.index 9 s0_7 i8_6)).bind fun v100 =>
    (bin .neq v100 (Value.int IntKind.u8 10)).bind fun v101 =>
    some (v101, W7)
   else some ((Value.bool false), W7)).bind fun r102 =>
  (asB r102.1).bind fun c102 =>
  if c102 then
    ((bin .add i8_6 (Value.int IntKind.i64 1)).bind fun v104 =>
    some (Res.norm [s0_7, l7_6, v104, end9_6] r102.2)).bind fun (r : Res) => (r.unblock 5).cont fun vs_7 W8 =>
    let s0_8 := nth vs_7 0
    let l7_7 := nth vs_7 1
    let i8_7 := nth vs_7 2
    let end9_7 := nth vs_7 3
    some (Res.norm [s0_8, l7_7, i8_7, end9_7] W8)
  else
  some (Res.exit 4 [l7_6, i8_6, end9_6] r102.2)
noncomputable def f30 (call : CallF) (s0 : Value) (at1 : Value) (W0 : World) : Option (Value × World) :=
  ((iter (f30.l1 call) [s0, (Value.slice none 0 0), at1, (Value.int IntKind.i64 (-1))] W0).bind fun (r : Res) => (r.unblock 0).cont fun vs_5 W6 =>
  let s0_6 := nth vs_5 0
  let l7_5 := nth vs_5 1
  let i8_5 := nth vs_5 2
  let end9_5 := nth vs_5 3
  (iter (f30.l2 call) [s0_6, l7_5, i8_5, end9_5] W6).bind fun (r : Res) => (r.unblock 4).cont fun vs_8 W9 =>
  let l7_8 := nth vs_8 0
  let i8_8 := nth vs_8 1
  let end9_8 := nth vs_8 2
  (bin .lss end9_8 (Value.int IntKind.i64 0)).bind fun v106 =>
  (asB v106).bind fun c106 =>
  (if c106 then
    some (Res.norm [l7_8, i8_8, i8_8] W9)
   else
    some (Res.norm [l7_8, i8_8, end9_8] W9)).bind fun (r : Res) => r.cont fun vs_9 W10 =>
  let l7_9 := nth vs_9 0
  let i8_9 := nth vs_9 1
  let end9_9 := nth vs_9 2
  (bin .add i8_9 (Value.int IntKind.i64 1)).bind fun v111 =>
  some (Res.ret [l7_9, end9_9, v111] W10)).bind Res.done
theorem f30.eq (call dfr : CallF) (s0 : Value) (at1 : Value) (W0 : World) : aFun Tryz.prog call dfr Tryz.f30 f30.ann (ofArgs #[s0, at1]) W0 = f30 call s0 at1 W0 := by kernel_rfl

/-- dailies/dailiesref19.head -/
def f31.ann : Ann := (.s .z (.s .z (.s (.s .z (.c (.s .z .z) .z)) (.s (.s .z (.c (.s .z .z) .z)) (.s .z (.s (.s .z (.c (.s .z .z) .z)) (.s .z (.s (.s .z (.b [0, 1, 4, 5, 9] (.l [0, 1, 4, 5, 6, 9, 10] (.s (.s .z (.c .z .z)) (.s (.b [0, 1, 4, 5, 6, 9, 10] (.s .z (.s .z (.c .z .z)))) .z))))) (.s (.s .z (.c (.s .z .z) .z)) (.s .z (.s (.s .z (.c (.s .z .z) .z)) (.s (.s .z (.c (.s .z .z) .z)) (.s .z .z)))))))))))))
noncomputable def f31.l0 (call : CallF) (vs : List Value) (W1 : World) : Option Res :=
  let l0_1 := nth vs 0
  let end1_1 := nth vs 1
  let v4 := nth vs 2
  let v5 := nth vs 3
  let w6 := nth vs 4
  let rate9 := nth vs 5
  let r10 := nth vs 6
  (bin .leq r10 (Value.int IntKind.i64 7)).bind fun v46 =>
  (asB v46).bind fun c46 =>
  if c46 then
    ((call 42 #[r10] W1).bind fun r50 =>
    (prun Tryz.prog (do eqGuard .eql 9 (Operand.tmp 51) (Operand.tmp 52) w6 r50.1; binOp .eql 9 w6 r50.1)).bind fun v53 =>
    (asB v53).bind fun c53 =>
    if c53 then
      some (Res.norm [l0_1, end1_1, v4, v5, w6, r10, r10] r50.2)
    else
    some (Res.norm [l0_1, end1_1, v4, v5, w6, rate9, r10] r50.2)).bind fun (r : Res) => (r.unblock 1).cont fun vs_1 W2 =>
    let l0_2 := nth vs_1 0
    let end1_2 := nth vs_1 1
    let v4_1 := nth vs_1 2
    let v5_1 := nth vs_1 3
    let w6_1 := nth vs_1 4
    let rate9_1 := nth vs_1 5
    let r10_1 := nth vs_1 6
    (bin .add r10_1 (Value.int IntKind.i64 1)).bind fun v48 =>
    some (Res.norm [l0_2, end1_2, v4_1, v5_1, w6_1, rate9_1, v48] W2)
  else
  some (Res.exit 0 [l0_1, end1_1, v4, v5, rate9] W1)
noncomputable def f31 (call : CallF) (l0 : Value) (end1 : Value) (W0 : World) : Option (Value × World) :=
  ((erun Tryz.prog (Instr.alloc 30 true (.tuple #[])) W0).bind fun r4 =>
  (erun Tryz.prog (Instr.alloc 76 true (.tuple #[])) r4.2).bind fun r5 =>
  (call 71 #[l0, end1, (Value.int IntKind.i64 0)] r5.2).bind fun r18 =>
  (prun Tryz.prog (Instr.extract r18.1 0)).bind fun v19 =>
  (prun Tryz.prog (Instr.extract r18.1 1)).bind fun v20 =>
  (prun Tryz.prog (Instr.extract r18.1 2)).bind fun v21 =>
  (erun Tryz.prog (Instr.alloc 76 true (.tuple #[])) r18.2).bind fun r7 =>
  (erun Tryz.prog (Instr.storeAt 76 r7.1 v20) r7.2).bind fun r =>
  (prun Tryz.prog (Op.unary .not v21)).bind fun v23 =>
  (asB v23).bind fun c23 =>
  if c23 then
    ((prun Tryz.prog (Instr.build 30 #[])).bind fun v24 =>
    some (v24, r.2.drew)).bind fun r24 =>
    ((rrun Tryz.prog (Instr.loadAt 76 r7.1) r24.2).bind fun v25 =>
    some (v25, r24.2)).bind fun r25 =>
    ((erun Tryz.prog (Instr.storeAt 30 r4.1 r24.1) r25.2).bind fun r_2 =>
    some (undef, r_2.2)).bind fun r_1 =>
    ((erun Tryz.prog (Instr.storeAt 76 r5.1 r25.1) r_1.2).bind fun r_4 =>
    some (undef, r_4.2)).bind fun r_3 =>
    chkThen ((((rrun Tryz.prog (Instr.loadAt 76 r7.1) r25.2).bind fun v25_1 => some v25_1) = some r25.1 ∧ ((rrun Tryz.prog (Instr.loadAt 76 r7.1) r_1.2).bind fun v25_2 => some v25_2) = some r25.1) ∧ True)
    (some (Res.ret [r4.1, r5.1] r_3.2))
  else
  (prun Tryz.prog (do eqGuard .neq 9 (Operand.tmp 26) (Operand.const (Value.string { data := #[108, 105, 115, 116] })) v19 (Value.string { data := #[108, 105, 115, 116] }); binOp .neq 9 v19 (Value.string { data := #[108, 105, 115, 116] }))).bind fun v27 =>
  (asB v27).bind fun c27 =>
  if c27 then
    ((prun Tryz.prog (Instr.build 30 #[])).bind fun v28 =>
    some (v28, r.2.drew)).bind fun r28 =>
    ((prun Tryz.prog (Instr.indexAt 70 l0 (Value.int IntKind.i64 0))).bind fun v30 =>
    some (v30, r28.2)).bind fun r30 =>
    ((prun Tryz.prog (Instr.fieldAt 74 r30.1 0)).bind fun v31 =>
    some (v31, r30.2)).bind fun r31 =>
    ((rrun Tryz.prog (Instr.loadAt 3 r31.1) r31.2).bind fun v32 =>
    some (v32, r31.2)).bind fun r32 =>
    ((prun Tryz.prog (Instr.build 76 #[(0, r32.1), (1, (Value.int IntKind.i64 193))])).bind fun v33 =>
    some (v33, r32.2)).bind fun r33 =>
    ((erun Tryz.prog (Instr.storeAt 30 r4.1 r28.1) r33.2).bind fun r_6 =>
    some (undef, r_6.2)).bind fun r_5 =>
    ((erun Tryz.prog (Instr.storeAt 76 r5.1 r33.1) r_5.2).bind fun r_8 =>
    some (undef, r_8.2)).bind fun r_7 =>
    chkThen ((((rrun Tryz.prog (Instr.loadAt 3 r31.1) r33.2).bind fun v32_1 => some v32_1) = some r32.1 ∧ ((rrun Tryz.prog (Instr.loadAt 3 r31.1) r_5.2).bind fun v32_2 => some v32_2) = some r32.1) ∧ True)
    (some (Res.ret [r4.1, r5.1] r_7.2))
  else
  (call 71 #[l0, end1, (Value.int IntKind.i64 1)] r.2).bind fun r37 =>
  (prun Tryz.prog (Instr.extract r37.1 0)).bind fun v38 =>
  (prun Tryz.prog (Instr.extract r37.1 1)).bind fun v39 =>
  (prun Tryz.prog (Instr.extract r37.1 2)).bind fun v40 =>
  (erun Tryz.prog (Instr.storeAt 76 r7.1 v39) r37.2).bind fun r_9 =>
  (prun Tryz.prog (Op.unary .not v40)).bind fun v42 =>
  (asB v42).bind fun c42 =>
  if c42 then
    ((prun Tryz.prog (Instr.build 30 #[])).bind fun v43 =>
    some (v43, r_9.2.drew)).bind fun r43 =>
    ((rrun Tryz.prog (Instr.loadAt 76 r7.1) r43.2).bind fun v44 =>
    some (v44, r43.2)).bind fun r44 =>
    ((erun Tryz.prog (Instr.storeAt 30 r4.1 r43.1) r44.2).bind fun r_11 =>
    some (undef, r_11.2)).bind fun r_10 =>
    ((erun Tryz.prog (Instr.storeAt 76 r5.1 r44.1) r_10.2).bind fun r_13 =>
    some (undef, r_13.2)).bind fun r_12 =>
    chkThen ((((rrun Tryz.prog (Instr.loadAt 76 r7.1) r44.2).bind fun v44_1 => some v44_1) = some r44.1 ∧ ((rrun Tryz.prog (Instr.loadAt 76 r7.1) r_10.2).bind fun v44_2 => some v44_2) = some r44.1) ∧ True)
    (some (Res.ret [r4.1, r5.1] r_12.2))
  else
  (iter (f31.l0 call) [l0, end1, r4.1, r5.1, v38, (Value.int IntKind.i64 0), (Value.int IntKind.i64 1)] r_9.2).bind fun (r : Res) => (r.unblock 0).cont fun vs_2 W3 =>
  let l0_3 := nth vs_2 0
  let end1_3 := nth vs_2 1
  let v4_2 := nth vs_2 2
  let v5_2 := nth vs_2 3
  let rate9_2 := nth vs_2 4
  (bin .eql rate9_2 (Value.int IntKind.i64 0)).bind fun v56 =>
  (asB v56).bind fun c56 =>
  if c56 then
    ((prun Tryz.prog (Instr.build 30 #[])).bind fun v57 =>
    some (v57, W3.drew)).bind fun r57 =>
    ((prun Tryz.prog (Instr.indexAt 70 l0_3 (Value.int IntKind.i64 1))).bind fun v59 =>
    some (v59, r57.2)).bind fun r59 =>
    ((prun Tryz.prog (Instr.fieldAt 74 r59.1 0)).bind fun v60 =>
    some (v60, r59.2)).bind fun r60 =>
    ((rrun Tryz.prog (Instr.loadAt 3 r60.1) r60.2).bind fun v61 =>
    some (v61, r60.2)).bind fun r61 =>
    ((prun Tryz.prog (Instr.build 76 #[(0, r61.1), (1, (Value.int IntKind.i64 193))])).bind fun v62 =>
    some (v62, r61.2)).bind fun r62 =>
    ((erun Tryz.prog (Instr.storeAt 30 v4_2 r57.1) r62.2).bind fun r_15 =>
    some (undef, r_15.2)).bind fun r_14 =>
    ((erun Tryz.prog (Instr.storeAt 76 v5_2 r62.1) r_14.2).bind fun r_17 =>
    some (undef, r_17.2)).bind fun r_16 =>
    chkThen ((((rrun Tryz.prog (Instr.loadAt 3 r60.1) r62.2).bind fun v61_1 => some v61_1) = some r61.1 ∧ ((rrun Tryz.prog (Instr.loadAt 3 r60.1) r_14.2).bind fun v61_2 => some v61_2) = some r61.1) ∧ True)
    (some (Res.ret [v4_2, v5_2] r_16.2))
  else
  (call 72 #[l0_3, end1_3, (Value.int IntKind.i64 2)] W3).bind fun r66 =>
  (prun Tryz.prog (Instr.extract r66.1 0)).bind fun v67 =>
  (prun Tryz.prog (Instr.extract r66.1 1)).bind fun v68 =>
  (prun Tryz.prog (Instr.extract r66.1 2)).bind fun v69 =>
  (erun Tryz.prog (Instr.alloc 76 true (.tuple #[])) r66.2).bind fun r13 =>
  (erun Tryz.prog (Instr.storeAt 76 r13.1 v68) r13.2).bind fun r_18 =>
  (prun Tryz.prog (Op.unary .not v69)).bind fun v71 =>
  (asB v71).bind fun c71 =>
  if c71 then
    ((prun Tryz.prog (Instr.build 30 #[])).bind fun v72 =>
    some (v72, r_18.2.drew)).bind fun r72 =>
    ((rrun Tryz.prog (Instr.loadAt 76 r13.1) r72.2).bind fun v73 =>
    some (v73, r72.2)).bind fun r73 =>
    ((erun Tryz.prog (Instr.storeAt 30 v4_2 r72.1) r73.2).bind fun r_20 =>
    some (undef, r_20.2)).bind fun r_19 =>
    ((erun Tryz.prog (Instr.storeAt 76 v5_2 r73.1) r_19.2).bind fun r_22 =>
    some (undef, r_22.2)).bind fun r_21 =>
    chkThen ((((rrun Tryz.prog (Instr.loadAt 76 r13.1) r73.2).bind fun v73_1 => some v73_1) = some r73.1 ∧ ((rrun Tryz.prog (Instr.loadAt 76 r13.1) r_19.2).bind fun v73_2 => some v73_2) = some r73.1) ∧ True)
    (some (Res.ret [v4_2, v5_2] r_21.2))
  else
  (prun Tryz.prog (Builtin.len_ #[70] 3 #[l0_3])).bind fun v75 =>
  (bin .gtr v75 (Value.int IntKind.i64 3)).bind fun v76 =>
  (asB v76).bind fun c76 =>
  if c76 then
    ((prun Tryz.prog (Instr.build 30 #[])).bind fun v77 =>
    some (v77, r_18.2.drew)).bind fun r77 =>
    ((prun Tryz.prog (Instr.indexAt 70 l0_3 (Value.int IntKind.i64 3))).bind fun v79 =>
    some (v79, r77.2)).bind fun r79 =>
    ((prun Tryz.prog (Instr.fieldAt 74 r79.1 0)).bind fun v80 =>
    some (v80, r79.2)).bind fun r80 =>
    ((rrun Tryz.prog (Instr.loadAt 3 r80.1) r80.2).bind fun v81 =>
    some (v81, r80.2)).bind fun r81 =>
    ((prun Tryz.prog (Instr.build 76 #[(0, r81.1), (1, (Value.int IntKind.i64 193))])).bind fun v82 =>
    some (v82, r81.2)).bind fun r82 =>
    ((erun Tryz.prog (Instr.storeAt 30 v4_2 r77.1) r82.2).bind fun r_24 =>
    some (undef, r_24.2)).bind fun r_23 =>
    ((erun Tryz.prog (Instr.storeAt 76 v5_2 r82.1) r_23.2).bind fun r_26 =>
    some (undef, r_26.2)).bind fun r_25 =>
    chkThen ((((rrun Tryz.prog (Instr.loadAt 3 r80.1) r82.2).bind fun v81_1 => some v81_1) = some r81.1 ∧ ((rrun Tryz.prog (Instr.loadAt 3 r80.1) r_23.2).bind fun v81_2 => some v81_2) = some r81.1) ∧ True)
    (some (Res.ret [v4_2, v5_2] r_25.2))
  else
  (prun Tryz.prog (Instr.build 30 #[(0, v67), (1, rate9_2)])).bind fun v85 =>
  (prun Tryz.prog (Instr.build 76 #[])).bind fun v86 =>
  (erun Tryz.prog (Instr.storeAt 30 v4_2 v85) r_18.2).bind fun r_27 =>
  (erun Tryz.prog (Instr.storeAt 76 v5_2 v86) r_27.2).bind fun r_28 =>
  some (Res.ret [v4_2, v5_2] r_28.2)).bind (Res.doneR Tryz.prog [.cell 4 30, .cell 5 76])
theorem f31.eq (call dfr : CallF) (l0 : Value) (end1 : Value) (W0 : World) : aFun Tryz.prog call dfr Tryz.f31 f31.ann (ofArgs #[l0, end1]) W0 = f31 call l0 end1 W0 := by kernel_rfl

/-- dailies/dailieslaw19.sameEvents -/
def f33.ann : Ann := (.s .z (.s (.s .z (.c (.s .z .z) .z)) (.s (.s .z (.b [] (.l [0, 1, 5] (.s (.s .z (.c .z .z)) (.s (.b [0, 1, 5] (.s .z (.c (.s .z .z) .z))) .z))))) (.s .z .z))))
noncomputable def f33.l0 (call : CallF) (vs : List Value) (W1 : World) : Option Res :=
  let a0_1 := nth vs 0
  let b1_1 := nth vs 1
  let i5 := nth vs 2
  (prun Tryz.prog (Builtin.len_ #[28] 3 #[a0_1])).bind fun v13 =>
  (bin .lss i5 v13).bind fun v14 =>
  (asB v14).bind fun c14 =>
  if c14 then
    ((prun Tryz.prog (Instr.indexAt 28 a0_1 i5)).bind fun v19 =>
    (rrun Tryz.prog (Instr.loadAt 51 v19) W1.drew).bind fun v20 =>
    (prun Tryz.prog (Instr.indexAt 28 b1_1 i5)).bind fun v23 =>
    (rrun Tryz.prog (Instr.loadAt 51 v23) W1.drew).bind fun v24 =>
    (rrun Tryz.prog (do eqGuard .neq 51 (Operand.tmp 20) (Operand.tmp 24) v20 v24; binOp .neq 51 v20 v24) W1.drew).bind fun v25 =>
    (asB v25).bind fun c25 =>
    if c25 then
      some (Res.ret [(Value.bool false)] W1.drew)
    else
    some (Res.norm [a0_1, b1_1, i5] W1.drew)).bind fun (r : Res) => (r.unblock 1).cont fun vs_1 W2 =>
    let a0_2 := nth vs_1 0
    let b1_2 := nth vs_1 1
    let i5_1 := nth vs_1 2
    (bin .add i5_1 (Value.int IntKind.i64 1)).bind fun v16 =>
    some (Res.norm [a0_2, b1_2, v16] W2)
  else
  some (Res.exit 0 [] W1)
noncomputable def f33 (call : CallF) (a0 : Value) (b1 : Value) (W0 : World) : Option (Value × World) :=
  ((prun Tryz.prog (Builtin.len_ #[28] 3 #[a0])).bind fun v7 =>
  (prun Tryz.prog (Builtin.len_ #[28] 3 #[b1])).bind fun v9 =>
  (bin .neq v7 v9).bind fun v10 =>
  (asB v10).bind fun c10 =>
  if c10 then
    some (Res.ret [(Value.bool false)] W0)
  else
  (iter (f33.l0 call) [a0, b1, (Value.int IntKind.i64 0)] W0).bind fun (r : Res) => (r.unblock 0).cont fun vs_2 W3 =>
  some (Res.ret [(Value.bool true)] W3)).bind Res.done
theorem f33.eq (call dfr : CallF) (a0 : Value) (b1 : Value) (W0 : World) : aFun Tryz.prog call dfr Tryz.f33 f33.ann (ofArgs #[a0, b1]) W0 = f33 call a0 b1 W0 := by kernel_rfl

/-- errors.As -/
def f34.ann : Ann := (.s .z (.s (.s .z (.c (.s .z .z) .z)) (.s (.s .z (.j [0, 1] .z .z)) (.s .z (.s .z (.s (.s .z (.j [0, 1, 5, 6] .z .z)) (.s .z (.s (.s .z (.j [0, 1, 5, 7] .z .z)) (.s .z .z)))))))))
noncomputable def f34 (call : CallF) (err0 : Value) (target1 : Value) (W0 : World) : Option (Value × World) :=
  ((rrun Tryz.prog (do eqGuard .eql 32 (Operand.tmp 8) (Operand.const Value.nilIface) err0 Value.nilIface; binOp .eql 32 err0 Value.nilIface) W0).bind fun v9 =>
  (asB v9).bind fun c9 =>
  if c9 then
    some (Res.ret [(Value.bool false)] W0)
  else
  (rrun Tryz.prog (do eqGuard .eql 20 (Operand.tmp 10) (Operand.const Value.nilIface) target1 Value.nilIface; binOp .eql 20 target1 Value.nilIface) W0).bind fun v11 =>
  (asB v11).bind fun c11 =>
  (if c11 then
    (prun Tryz.prog (Instr.makeInterface 9 (Value.string { data := #[101, 114, 114, 111, 114, 115, 58, 32, 116, 97, 114, 103, 101, 116, 32, 99, 97, 110, 110, 111, 116, 32, 98, 101, 32, 110, 105, 108] }))).bind fun v12 =>
    none
   else
    some (Res.norm [err0, target1] W0)).bind fun (r : Res) => r.cont fun vs W1 =>
  let err0_1 := nth vs 0
  let target1_1 := nth vs 1
  (xrun Tryz.prog (callFunc 76 #[target1_1]) W1).bind fun r14 =>
  (erun Tryz.prog (Instr.alloc 137 true (.tuple #[])) r14.2).bind fun r5 =>
  (erun Tryz.prog (Instr.storeAt 137 r5.1 r14.1) r5.2).bind fun r =>
  (rrun Tryz.prog (Instr.loadAt 137 r5.1) r.2).bind fun v15 =>
  (xrun Tryz.prog (callFunc 77 #[v15]) r.2).bind fun r16 =>
  (imethod Tryz.prog r16.1 "Kind" r16.2).bind fun m18 =>
  (call m18.1 #[m18.2] r16.2).bind fun r18 =>
  (bin .neq r18.1 (Value.int IntKind.u8 22)).bind fun v19 =>
  (asB v19).bind fun b20 =>
  (if b20 = false then (rrun Tryz.prog (Instr.loadAt 137 r5.1) r18.2).bind fun v21 =>
    (xrun Tryz.prog (callFunc 78 #[v21]) r18.2).bind fun r22 =>
    some (r22.1, r22.2)
   else some ((Value.bool true), r18.2)).bind fun r23 =>
  (asB r23.1).bind fun c23 =>
  (if c23 then
    (prun Tryz.prog (Instr.makeInterface 9 (Value.string { data := #[101, 114, 114, 111, 114, 115, 58, 32, 116, 97, 114, 103, 101, 116, 32, 109, 117, 115, 116, 32, 98, 101, 32, 97, 32, 110, 111, 110, 45, 110, 105, 108, 32, 112, 111, 105, 110, 116, 101, 114] }))).bind fun v24 =>
    none
   else
    some (Res.norm [err0_1, target1_1, r5.1, r16.1] r23.2)).bind fun (r : Res) => r.cont fun vs_1 W2 =>
  let err0_2 := nth vs_1 0
  let target1_2 := nth vs_1 1
  let val5 := nth vs_1 2
  let typ6 := nth vs_1 3
  (imethod Tryz.prog typ6 "Elem" W2).bind fun m26 =>
  (call m26.1 #[m26.2] W2).bind fun r26 =>
  (imethod Tryz.prog r26.1 "Kind" r26.2).bind fun m28 =>
  (call m28.1 #[m28.2] r26.2).bind fun r28 =>
  (bin .neq r28.1 (Value.int IntKind.u8 20)).bind fun v29 =>
  (asB v29).bind fun b30 =>
  (if b30 = true then (rrun Tryz.prog (Instr.loadAt 108 (.pointer (some ⟨0, 0, none⟩))) r28.2).bind fun v32 =>
    (imethod Tryz.prog r26.1 "Implements" r28.2).bind fun m33 =>
    (call m33.1 #[m33.2, v32] r28.2).bind fun r33 =>
    (prun Tryz.prog (Op.unary .not r33.1)).bind fun v34 =>
    some (v34, r33.2)
   else some ((Value.bool false), r28.2)).bind fun r35 =>
  (asB r35.1).bind fun c35 =>
  (if c35 then
    (prun Tryz.prog (Instr.makeInterface 9 (Value.string { data := #[101, 114, 114, 111, 114, 115, 58, 32, 42, 116, 97, 114, 103, 101, 116, 32, 109, 117, 115, 116, 32, 98, 101, 32, 105, 110, 116, 101, 114, 102, 97, 99, 101, 32, 111, 114, 32, 105, 109, 112, 108, 101, 109, 101, 110, 116, 32, 101, 114, 114, 111, 114] }))).bind fun v36 =>
    none
   else
    some (Res.norm [err0_2, target1_2, val5, r26.1] r35.2)).bind fun (r : Res) => r.cont fun vs_2 W3 =>
  let err0_3 := nth vs_2 0
  let target1_3 := nth vs_2 1
  let val5_1 := nth vs_2 2
  let targetType7 := nth vs_2 3
  (rrun Tryz.prog (Instr.loadAt 137 val5_1) W3).bind fun v39 =>
  (call 79 #[err0_3, target1_3, v39, targetType7] W3).bind fun r41 =>
  some (Res.ret [r41.1] r41.2)).bind Res.done
theorem f34.eq (call dfr : CallF) (err0 : Value) (target1 : Value) (W0 : World) : aFun Tryz.prog call dfr Tryz.f34 f34.ann (ofArgs #[err0, target1]) W0 = f34 call err0 target1 W0 := by kernel_rfl

/-- dailies/dailieslaw19.mark -/
def f35.ann : Ann := (.s .z (.s .z .z))
noncomputable def f35 (call : CallF) (i0 : Value) (W0 : World) : Option (Value × World) :=
  ((erun Tryz.prog (Instr.alloc 51 true (.tuple #[])) W0).bind fun r2 =>
  (bin .sub (Value.int IntKind.i64 (-5)) i0).bind fun v4 =>
  (prun Tryz.prog (Instr.build 51 #[(1, v4)])).bind fun v5 =>
  (erun Tryz.prog (Instr.storeAt 51 r2.1 v5) r2.2).bind fun r =>
  some (Res.ret [r2.1] r.2)).bind (Res.doneR Tryz.prog [.cell 2 51])
theorem f35.eq (call dfr : CallF) (i0 : Value) (W0 : World) : aFun Tryz.prog call dfr Tryz.f35 f35.ann (ofArgs #[i0]) W0 = f35 call i0 W0 := by kernel_rfl

/-- dailies/dailieslaw19.full -/
def f36.ann : Ann := (.s .z (.s (.s .z (.b [] (.l [0, 3, 5] (.s (.s .z (.c .z .z)) (.s (.b [0, 3, 5] (.s .z (.c (.s .z .z) .z))) .z))))) (.s .z .z)))
noncomputable def f36.l0 (call : CallF) (vs : List Value) (W1 : World) : Option Res :=
  let l0_1 := nth vs 0
  let m3 := nth vs 1
  let i5 := nth vs 2
  (prun Tryz.prog (Builtin.len_ #[28] 3 #[l0_1])).bind fun v8 =>
  (bin .lss i5 v8).bind fun v9 =>
  (asB v9).bind fun c9 =>
  if c9 then
    ((prun Tryz.prog (Instr.indexAt 28 l0_1 i5)).bind fun v14 =>
    (rrun Tryz.prog (Instr.loadAt 51 v14) W1.drew).bind fun v15 =>
    (rrun Tryz.prog (Instr.loadAt 51 m3) W1.drew).bind fun v16 =>
    (rrun Tryz.prog (do eqGuard .neq 51 (Operand.tmp 15) (Operand.tmp 16) v15 v16; binOp .neq 51 v15 v16) W1.drew).bind fun v17 =>
    (asB v17).bind fun c17 =>
    if c17 then
      some (Res.ret [(Value.bool false)] W1.drew)
    else
    some (Res.norm [l0_1, m3, i5] W1.drew)).bind fun (r : Res) => (r.unblock 1).cont fun vs_1 W2 =>
    let l0_2 := nth vs_1 0
    let m3_1 := nth vs_1 1
    let i5_1 := nth vs_1 2
    (bin .add i5_1 (Value.int IntKind.i64 1)).bind fun v11 =>
    some (Res.norm [l0_2, m3_1, v11] W2)
  else
  some (Res.exit 0 [] W1)
noncomputable def f36 (call : CallF) (l0 : Value) (m1 : Value) (W0 : World) : Option (Value × World) :=
  ((erun Tryz.prog (Instr.box 51 m1) W0).bind fun r3 =>
  (iter (f36.l0 call) [l0, r3.1, (Value.int IntKind.i64 0)] r3.2).bind fun (r : Res) => (r.unblock 0).cont fun vs_2 W3 =>
  some (Res.ret [(Value.bool true)] W3)).bind Res.done
theorem f36.eq (call dfr : CallF) (l0 : Value) (m1 : Value) (W0 : World) : aFun Tryz.prog call dfr Tryz.f36 f36.ann (ofArgs #[l0, m1]) W0 = f36 call l0 m1 W0 := by kernel_rfl

/-- dailies/timecode.PerDay -/
def f37.ann : Ann := (.s .z (.s .z (.s (.s .z (.c (.s .z .z) .z)) (.s .z .z))))
noncomputable def f37 (call : CallF) (r0 : Value) (W0 : World) : Option (Value × World) :=
  ((call 80 #[r0] W0).bind fun r8 =>
  (prun Tryz.prog (Instr.extract r8.1 0)).bind fun v9 =>
  (prun Tryz.prog (Instr.extract r8.1 1)).bind fun v10 =>
  (erun Tryz.prog (Instr.alloc 145 true (.tuple #[])) r8.2).bind fun r4 =>
  (erun Tryz.prog (Instr.storeAt 145 r4.1 v9) r4.2).bind fun r =>
  (prun Tryz.prog (Op.unary .not v10)).bind fun v12 =>
  (asB v12).bind fun c12 =>
  if c12 then
    some (Res.ret [(Value.int IntKind.i64 0), (Value.int IntKind.i64 181)] r.2)
  else
  (rrun Tryz.prog (Instr.loadAt 145 r4.1) r.2).bind fun v13 =>
  (call 81 #[v13] r.2).bind fun r14 =>
  some (Res.ret [r14.1, (Value.int IntKind.i64 0)] r14.2)).bind Res.done
theorem f37.eq (call dfr : CallF) (r0 : Value) (W0 : World) : aFun Tryz.prog call dfr Tryz.f37 f37.ann (ofArgs #[r0]) W0 = f37 call r0 W0 := by kernel_rfl

/-- dailies/cuts.wrong -/
def f38.ann : Ann := (.s .z (.s .z .z))
noncomputable def f38 (call : CallF) (event0 : Value) (e1 : Value) (W0 : World) : Option (Value × World) :=
  ((prun Tryz.prog (Instr.build 101 #[(0, event0), (1, e1)])).bind fun v7 =>
  (erun Tryz.prog (Instr.box 101 v7) W0).bind fun r8 =>
  (prun Tryz.prog (Instr.makeInterface 99 r8.1)).bind fun v9 =>
  some (Res.ret [v9] r8.2)).bind Res.done
theorem f38.eq (call dfr : CallF) (event0 : Value) (e1 : Value) (W0 : World) : aFun Tryz.prog call dfr Tryz.f38 f38.ann (ofArgs #[event0, e1]) W0 = f38 call event0 e1 W0 := by kernel_rfl

/-- unicode/utf8.ValidString -/
def f39.ann : Ann := (.s .z (.s (.b [] (.l [0] (.s (.s .z (.c .z .z)) (.b [0] (.s .z (.s (.s .z (.c (.s .z (.s (.s .z (.j [0] (.s .z (.s .z (.c (.s .z (.b [0] (.l [0] (.s (.s .z (.c .z .z)) (.b [0] .z))))) .z))) .z)) .z)) .z)) (.s .z (.s .z (.s .z (.s .z (.b [0] (.s .z (.c (.s (.s .z (.c (.s .z .z) .z)) .z) (.s .z (.c (.s (.s .z (.c (.s .z .z) .z)) .z) (.s .z (.c (.s (.s .z (.c (.s .z .z) .z)) .z) (.s .z .z)))))))))))))))))) (.s .z .z)))
noncomputable def f39.l0 (call : CallF) (vs_1 : List Value) (W2 : World) : Option Res :=
  let t0_2 := nth vs_1 0
  ((prun Tryz.prog (Builtin.len_ #[9] 3 #[t0_2])).bind fun v43 =>
  some (v43, W2.drew)).bind fun r43 =>
  ((bin .gtr r43.1 (Value.int IntKind.i64 32)).bind fun v44 =>
  some (v44, r43.2)).bind fun r44 =>
  (if wantedV true r44.1 = true then some (t0_2, r44.2) else some (undef, r44.2)).bind fun r46 =>
  (if wantedV true r44.1 = true then (call 82 #[r46.1] r46.2).bind fun r47_1 =>
  some (r47_1.1, r47_1.2) else some (undef, r46.2)).bind fun r47 =>
  (if wantedV true r44.1 = true then some (t0_2, r47.2) else some (undef, r47.2)).bind fun r48 =>
  (if wantedV true r44.1 = true then (prun Tryz.prog (Instr.sliceAt 9 r48.1 (some (Value.int IntKind.i64 8)) none none)).bind fun v49 =>
  some (v49, r48.2) else some (undef, r48.2)).bind fun r49 =>
  (if wantedV true r44.1 = true then (call 82 #[r49.1] r49.2).bind fun r50_1 =>
  some (r50_1.1, r50_1.2) else some (undef, r49.2)).bind fun r50 =>
  (if wantedV true r44.1 = true then (prun Tryz.prog (do eqGuard .or 12 (Operand.tmp 47) (Operand.tmp 50) r47.1 r50.1; binOp .or 12 r47.1 r50.1)).bind fun v51 =>
  some (v51, r50.2) else some (undef, r50.2)).bind fun r51 =>
  (if wantedV true r44.1 = true then some (t0_2, r51.2) else some (undef, r51.2)).bind fun r52 =>
  (if wantedV true r44.1 = true then (prun Tryz.prog (Instr.sliceAt 9 r52.1 (some (Value.int IntKind.i64 16)) none none)).bind fun v53 =>
  some (v53, r52.2) else some (undef, r52.2)).bind fun r53 =>
  (if wantedV true r44.1 = true then (call 82 #[r53.1] r53.2).bind fun r54_1 =>
  some (r54_1.1, r54_1.2) else some (undef, r53.2)).bind fun r54 =>
  (if wantedV true r44.1 = true then some (t0_2, r54.2) else some (undef, r54.2)).bind fun r55 =>
  (if wantedV true r44.1 = true then (prun Tryz.prog (Instr.sliceAt 9 r55.1 (some (Value.int IntKind.i64 24)) none none)).bind fun v56 =>
  some (v56, r55.2) else some (undef, r55.2)).bind fun r56 =>
  (if wantedV true r44.1 = true then (call 82 #[r56.1] r56.2).bind fun r57_1 =>
  some (r57_1.1, r57_1.2) else some (undef, r56.2)).bind fun r57 =>
  (if wantedV true r44.1 = true then (prun Tryz.prog (do eqGuard .or 12 (Operand.tmp 54) (Operand.tmp 57) r54.1 r57.1; binOp .or 12 r54.1 r57.1)).bind fun v58 =>
  some (v58, r57.2) else some (undef, r57.2)).bind fun r58 =>
  (if wantedV true r44.1 = true then (prun Tryz.prog (do eqGuard .or 12 (Operand.tmp 51) (Operand.tmp 58) r51.1 r58.1; binOp .or 12 r51.1 r58.1)).bind fun v59 =>
  some (v59, r58.2) else some (undef, r58.2)).bind fun r59 =>
  (if wantedV true r44.1 = true then (prun Tryz.prog (do eqGuard .and 12 (Operand.tmp 59) (Operand.const (Value.int IntKind.u64 9259542123273814144)) r59.1 (Value.int IntKind.u64 9259542123273814144); binOp .and 12 r59.1 (Value.int IntKind.u64 9259542123273814144))).bind fun v60 =>
  some (v60, r59.2) else some (undef, r59.2)).bind fun r60 =>
  (if wantedV true r44.1 = true then (bin .eql r60.1 (Value.int IntKind.u64 0)).bind fun v61 =>
  some (v61, r60.2) else some (undef, r60.2)).bind fun r61 =>
  ((pickV r44.1 r61.1 (Value.bool false)).bind fun v62 =>
  some (v62, r61.2)).bind fun r62 =>
  chkThen (True)
  ((asB r62.1).bind fun c62 =>
  if c62 then
    ((prun Tryz.prog (Instr.sliceAt 9 t0_2 (some (Value.int IntKind.i64 32)) none none)).bind fun v64 =>
    some (Res.norm [v64] r62.2)).bind fun (r : Res) => (r.unblock 3).cont fun vs_2 W3 =>
    let t0_3 := nth vs_2 0
    some (Res.norm [t0_3] W3)
  else
  some (Res.exit 2 [t0_2] r62.2))
noncomputable def f39.l1 (call : CallF) (vs : List Value) (W1 : World) : Option Res :=
  let t0_1 := nth vs 0
  (prun Tryz.prog (Builtin.len_ #[9] 3 #[t0_1])).bind fun v8 =>
  (bin .gtr v8 (Value.int IntKind.i64 0)).bind fun v9 =>
  (asB v9).bind fun c9 =>
  if c9 then
    ((prun Tryz.prog (Instr.index 9 t0_1 (Value.int IntKind.i64 0))).bind fun v11 =>
    (bin .lss v11 (Value.int IntKind.u8 128)).bind fun v13 =>
    (asB v13).bind fun c13 =>
    if c13 then
      (prun Tryz.prog (Instr.sliceAt 9 t0_1 (some (Value.int IntKind.i64 1)) none none)).bind fun v15 =>
      (prun Tryz.prog (Builtin.len_ #[9] 3 #[v15])).bind fun v17 =>
      (bin .gtr v17 (Value.int IntKind.i64 8)).bind fun v18 =>
      (asB v18).bind fun b19 =>
      (if b19 = true then (call 82 #[v15] W1).bind fun r21 =>
        (prun Tryz.prog (do eqGuard .and 12 (Operand.tmp 21) (Operand.const (Value.int IntKind.u64 9259542123273814144)) r21.1 (Value.int IntKind.u64 9259542123273814144); binOp .and 12 r21.1 (Value.int IntKind.u64 9259542123273814144))).bind fun v22 =>
        (bin .eql v22 (Value.int IntKind.u64 0)).bind fun v23 =>
        some (v23, r21.2)
       else some ((Value.bool false), W1)).bind fun r24 =>
      (asB r24.1).bind fun c24 =>
      (if c24 then
        (prun Tryz.prog (Instr.sliceAt 9 v15 (some (Value.int IntKind.i64 8)) none none)).bind fun v26 =>
        ((prun Tryz.prog (Builtin.len_ #[9] 3 #[v26])).bind fun v28 =>
        some (v28, r24.2.drew)).bind fun r28 =>
        ((bin .gtr r28.1 (Value.int IntKind.i64 16)).bind fun v29 =>
        some (v29, r28.2)).bind fun r29 =>
        (if wantedV true r29.1 = true then some (v26, r29.2) else some (undef, r29.2)).bind fun r31 =>
        (if wantedV true r29.1 = true then (call 82 #[r31.1] r31.2).bind fun r32_1 =>
        some (r32_1.1, r32_1.2) else some (undef, r31.2)).bind fun r32 =>
        (if wantedV true r29.1 = true then some (v26, r32.2) else some (undef, r32.2)).bind fun r33 =>
        (if wantedV true r29.1 = true then (prun Tryz.prog (Instr.sliceAt 9 r33.1 (some (Value.int IntKind.i64 8)) none none)).bind fun v34 =>
        some (v34, r33.2) else some (undef, r33.2)).bind fun r34 =>
        (if wantedV true r29.1 = true then (call 82 #[r34.1] r34.2).bind fun r35_1 =>
        some (r35_1.1, r35_1.2) else some (undef, r34.2)).bind fun r35 =>
        (if wantedV true r29.1 = true then (prun Tryz.prog (do eqGuard .or 12 (Operand.tmp 32) (Operand.tmp 35) r32.1 r35.1; binOp .or 12 r32.1 r35.1)).bind fun v36 =>
        some (v36, r35.2) else some (undef, r35.2)).bind fun r36 =>
        (if wantedV true r29.1 = true then (prun Tryz.prog (do eqGuard .and 12 (Operand.tmp 36) (Operand.const (Value.int IntKind.u64 9259542123273814144)) r36.1 (Value.int IntKind.u64 9259542123273814144); binOp .and 12 r36.1 (Value.int IntKind.u64 9259542123273814144))).bind fun v37 =>
        some (v37, r36.2) else some (undef, r36.2)).bind fun r37 =>
        (if wantedV true r29.1 = true then (bin .eql r37.1 (Value.int IntKind.u64 0)).bind fun v38 =>
        some (v38, r37.2) else some (undef, r37.2)).bind fun r38 =>
        ((pickV r29.1 r38.1 (Value.bool false)).bind fun v39 =>
        some (v39, r38.2)).bind fun r39 =>
        chkThen (True)
        ((asB r39.1).bind fun c39 =>
        if c39 then
          (prun Tryz.prog (Instr.sliceAt 9 v26 (some (Value.int IntKind.i64 16)) none none)).bind fun v41 =>
          (iter (f39.l0 call) [v41] r39.2).bind fun (r : Res) => (r.unblock 2).cont fun vs_3 W4 =>
          let t0_4 := nth vs_3 0
          some (Res.norm [t0_4] W4)
        else
        some (Res.norm [v26] r39.2))
       else
        some (Res.norm [v15] r24.2)).bind fun (r : Res) => r.cont fun vs_4 W5 =>
      let t0_5 := nth vs_4 0
      some (Res.exit 1 [t0_5] W5)
    else
    (prun Tryz.prog (Instr.indexAt 150 (.pointer (some ⟨1, 0, none⟩)) v11)).bind fun v66 =>
    (rrun Tryz.prog (Instr.loadAt 5 v66) W1).bind fun v67 =>
    (prun Tryz.prog (do eqGuard .and 5 (Operand.tmp 68) (Operand.const (Value.int IntKind.u8 7)) v67 (Value.int IntKind.u8 7); binOp .and 5 v67 (Value.int IntKind.u8 7))).bind fun v69 =>
    (prun Tryz.prog (convert 5 3 v69)).bind fun v70 =>
    (prun Tryz.prog (do eqGuard .shr 5 (Operand.tmp 71) (Operand.const (Value.int IntKind.u64 4)) v67 (Value.int IntKind.u64 4); binOp .shr 5 v67 (Value.int IntKind.u64 4))).bind fun v72 =>
    (prun Tryz.prog (Instr.indexAt 153 (.pointer (some ⟨2, 0, none⟩)) v72)).bind fun v73 =>
    (rrun Tryz.prog (Instr.loadAt 152 v73) W1).bind fun v74 =>
    (erun Tryz.prog (Instr.alloc 152 true (.tuple #[])) W1).bind fun r6 =>
    (erun Tryz.prog (Instr.storeAt 152 r6.1 v74) r6.2).bind fun r =>
    ((bin .eql v70 (Value.int IntKind.i64 2)).bind fun v77 =>
    (asB v77).bind fun c76 =>
    if c76 then
      (prun Tryz.prog (Builtin.len_ #[9] 3 #[t0_1])).bind fun v79 =>
      (bin .lss v79 (Value.int IntKind.i64 2)).bind fun v80 =>
      (asB v80).bind fun b81 =>
      (if b81 = false then (prun Tryz.prog (Instr.index 9 t0_1 (Value.int IntKind.i64 1))).bind fun v83 =>
        (prun Tryz.prog (Instr.fieldAt 152 r6.1 0)).bind fun v84 =>
        (rrun Tryz.prog (Instr.loadAt 5 v84) r.2.drew).bind fun v85 =>
        (bin .lss v83 v85).bind fun v86 =>
        some (v86, r.2.drew)
       else some ((Value.bool true), r.2.drew)).bind fun r87 =>
      (asB r87.1).bind fun b88 =>
      (if b88 = false then (prun Tryz.prog (Instr.fieldAt 152 r6.1 1)).bind fun v89 =>
        (rrun Tryz.prog (Instr.loadAt 5 v89) r87.2).bind fun v90 =>
        (prun Tryz.prog (Instr.index 9 t0_1 (Value.int IntKind.i64 1))).bind fun v92 =>
        (bin .lss v90 v92).bind fun v93 =>
        some (v93, r87.2)
       else some ((Value.bool true), r87.2)).bind fun r94 =>
      (asB r94.1).bind fun c94 =>
      if c94 then
        some (Res.ret [(Value.bool false)] r94.2)
      else
      (prun Tryz.prog (Instr.sliceAt 9 t0_1 (some (Value.int IntKind.i64 2)) none none)).bind fun v96 =>
      some (Res.norm [v96] r94.2)
    else
    (bin .eql v70 (Value.int IntKind.i64 3)).bind fun v98 =>
    (asB v98).bind fun c97 =>
    if c97 then
      (prun Tryz.prog (Builtin.len_ #[9] 3 #[t0_1])).bind fun v100 =>
      (bin .lss v100 (Value.int IntKind.i64 3)).bind fun v101 =>
      (asB v101).bind fun b102 =>
      (if b102 = false then (prun Tryz.prog (Instr.index 9 t0_1 (Value.int IntKind.i64 1))).bind fun v104 =>
        (prun Tryz.prog (Instr.fieldAt 152 r6.1 0)).bind fun v105 =>
        (rrun Tryz.prog (Instr.loadAt 5 v105) r.2.drew).bind fun v106 =>
        (bin .lss v104 v106).bind fun v107 =>
        some (v107, r.2.drew)
       else some ((Value.bool true), r.2.drew)).bind fun r108 =>
      (asB r108.1).bind fun b109 =>
      (if b109 = false then (prun Tryz.prog (Instr.fieldAt 152 r6.1 1)).bind fun v110 =>
        (rrun Tryz.prog (Instr.loadAt 5 v110) r108.2).bind fun v111 =>
        (prun Tryz.prog (Instr.index 9 t0_1 (Value.int IntKind.i64 1))).bind fun v113 =>
        (bin .lss v111 v113).bind fun v114 =>
        some (v114, r108.2)
       else some ((Value.bool true), r108.2)).bind fun r115 =>
      (asB r115.1).bind fun b116 =>
      (if b116 = false then (prun Tryz.prog (Instr.index 9 t0_1 (Value.int IntKind.i64 2))).bind fun v118 =>
        (bin .lss v118 (Value.int IntKind.u8 128)).bind fun v119 =>
        some (v119, r115.2)
       else some ((Value.bool true), r115.2)).bind fun r120 =>
      (asB r120.1).bind fun b121 =>
      (if b121 = false then (prun Tryz.prog (Instr.index 9 t0_1 (Value.int IntKind.i64 2))).bind fun v123 =>
        (bin .lss (Value.int IntKind.u8 191) v123).bind fun v124 =>
        some (v124, r120.2)
       else some ((Value.bool true), r120.2)).bind fun r125 =>
      (asB r125.1).bind fun c125 =>
      if c125 then
        some (Res.ret [(Value.bool false)] r125.2)
      else
      (prun Tryz.prog (Instr.sliceAt 9 t0_1 (some (Value.int IntKind.i64 3)) none none)).bind fun v127 =>
      some (Res.norm [v127] r125.2)
    else
    (bin .eql v70 (Value.int IntKind.i64 4)).bind fun v129 =>
    (asB v129).bind fun c128 =>
    if c128 then
      (prun Tryz.prog (Builtin.len_ #[9] 3 #[t0_1])).bind fun v131 =>
      (bin .lss v131 (Value.int IntKind.i64 4)).bind fun v132 =>
      (asB v132).bind fun b133 =>
      (if b133 = false then (prun Tryz.prog (Instr.index 9 t0_1 (Value.int IntKind.i64 1))).bind fun v135 =>
        (prun Tryz.prog (Instr.fieldAt 152 r6.1 0)).bind fun v136 =>
        (rrun Tryz.prog (Instr.loadAt 5 v136) r.2.drew).bind fun v137 =>
        (bin .lss v135 v137).bind fun v138 =>
        some (v138, r.2.drew)
       else some ((Value.bool true), r.2.drew)).bind fun r139 =>
      (asB r139.1).bind fun b140 =>
      (if b140 = false then (prun Tryz.prog (Instr.fieldAt 152 r6.1 1)).bind fun v141 =>
        (rrun Tryz.prog (Instr.loadAt 5 v141) r139.2).bind fun v142 =>
        (prun Tryz.prog (Instr.index 9 t0_1 (Value.int IntKind.i64 1))).bind fun v144 =>
        (bin .lss v142 v144).bind fun v145 =>
        some (v145, r139.2)
       else some ((Value.bool true), r139.2)).bind fun r146 =>
      (asB r146.1).bind fun b147 =>
      (if b147 = false then (prun Tryz.prog (Instr.index 9 t0_1 (Value.int IntKind.i64 2))).bind fun v149 =>
        (bin .lss v149 (Value.int IntKind.u8 128)).bind fun v150 =>
        some (v150, r146.2)
       else some ((Value.bool true), r146.2)).bind fun r151 =>
      (asB r151.1).bind fun b152 =>
      (if b152 = false then (prun Tryz.prog (Instr.index 9 t0_1 (Value.int IntKind.i64 2))).bind fun v154 =>
        (bin .lss (Value.int IntKind.u8 191) v154).bind fun v155 =>
        some (v155, r151.2)
       else some ((Value.bool true), r151.2)).bind fun r156 =>
      (asB r156.1).bind fun b157 =>
      (if b157 = false then (prun Tryz.prog (Instr.index 9 t0_1 (Value.int IntKind.i64 3))).bind fun v159 =>
        (bin .lss v159 (Value.int IntKind.u8 128)).bind fun v160 =>
        some (v160, r156.2)
       else some ((Value.bool true), r156.2)).bind fun r161 =>
      (asB r161.1).bind fun b162 =>
      (if b162 = false then (prun Tryz.prog (Instr.index 9 t0_1 (Value.int IntKind.i64 3))).bind fun v164 =>
        (bin .lss (Value.int IntKind.u8 191) v164).bind fun v165 =>
        some (v165, r161.2)
       else some ((Value.bool true), r161.2)).bind fun r166 =>
      (asB r166.1).bind fun c166 =>
      if c166 then
        some (Res.ret [(Value.bool false)] r166.2)
      else
      (prun Tryz.prog (Instr.sliceAt 9 t0_1 (some (Value.int IntKind.i64 4)) none none)).bind fun v168 =>
      some (Res.norm [v168] r166.2)
    else
    some (Res.ret [(Value.bool false)] r.2)).bind fun (r : Res) => (r.unblock 4).cont fun vs_5 W6 =>
    let t0_6 := nth vs_5 0
    some (Res.norm [t0_6] W6)).bind fun (r : Res) => (r.unblock 1).cont fun vs_6 W7 =>
    let t0_7 := nth vs_6 0
    some (Res.norm [t0_7] W7)
  else
  some (Res.exit 0 [] W1)
noncomputable def f39 (call : CallF) (t0 : Value) (W0 : World) : Option (Value × World) :=
  ((iter (f39.l1 call) [t0] W0).bind fun (r : Res) => (r.unblock 0).cont fun vs_7 W8 =>
  some (Res.ret [(Value.bool true)] W8)).bind Res.done
theorem f39.eq (call dfr : CallF) (t0 : Value) (W0 : World) : aFun Tryz.prog call dfr Tryz.f39 f39.ann (ofArgs #[t0]) W0 = f39 call t0 W0 := by kernel_rfl

/-- dailies/cuts.checkEvent -/
def f40.ann : Ann := (.s .z (.s (.b [] (.s .z (.c (.s .z .z) (.s .z (.c (.s .z .z) (.s .z (.c (.s .z .z) (.s .z (.c (.s .z .z) (.s .z (.c (.s .z .z) .z))))))))))) (.s .z .z)))
noncomputable def f40 (call : CallF) (ahead0 : Value) (e1 : Value) (day2 : Value) (W0 : World) : Option (Value × World) :=
  ((erun Tryz.prog (Instr.box 51 e1) W0).bind fun r4 =>
  ((prun Tryz.prog (Instr.fieldAt 51 r4.1 0)).bind fun v8 =>
  (rrun Tryz.prog (Instr.loadAt 9 v8) r4.2).bind fun v9 =>
  (call 67 #[v9] r4.2).bind fun r10 =>
  (prun Tryz.prog (Op.unary .not r10.1)).bind fun v11 =>
  (asB v11).bind fun c7 =>
  if c7 then
    some (Res.ret [(Value.int IntKind.i64 193)] r10.2)
  else
  (prun Tryz.prog (Instr.fieldAt 51 r4.1 1)).bind fun v13 =>
  (rrun Tryz.prog (Instr.loadAt 3 v13) r10.2).bind fun v14 =>
  (bin .lss v14 (Value.int IntKind.i64 0)).bind fun v15 =>
  (asB v15).bind fun b16 =>
  (if b16 = false then (prun Tryz.prog (Instr.fieldAt 51 r4.1 1)).bind fun v17 =>
    (rrun Tryz.prog (Instr.loadAt 3 v17) r10.2).bind fun v18 =>
    (prun Tryz.prog (Instr.fieldAt 51 r4.1 2)).bind fun v19 =>
    (rrun Tryz.prog (Instr.loadAt 3 v19) r10.2).bind fun v20 =>
    (bin .geq v18 v20).bind fun v21 =>
    some (v21, r10.2)
   else some ((Value.bool true), r10.2)).bind fun r22 =>
  (asB r22.1).bind fun b23 =>
  (if b23 = false then (prun Tryz.prog (Instr.fieldAt 51 r4.1 2)).bind fun v24 =>
    (rrun Tryz.prog (Instr.loadAt 3 v24) r22.2).bind fun v25 =>
    (bin .geq v25 day2).bind fun v27 =>
    some (v27, r22.2)
   else some ((Value.bool true), r22.2)).bind fun r28 =>
  (asB r28.1).bind fun c12 =>
  if c12 then
    some (Res.ret [(Value.int IntKind.i64 194)] r28.2)
  else
  (rrun Tryz.prog (Instr.loadAt 51 r4.1) r28.2).bind fun v31 =>
  (call 83 #[ahead0, v31] r28.2).bind fun r32 =>
  (prun Tryz.prog (Op.unary .not r32.1)).bind fun v33 =>
  (asB v33).bind fun c29 =>
  if c29 then
    some (Res.ret [(Value.int IntKind.i64 195)] r32.2)
  else
  (prun Tryz.prog (Instr.fieldAt 51 r4.1 4)).bind fun v35 =>
  (rrun Tryz.prog (Instr.loadAt 9 v35) r32.2).bind fun v36 =>
  (prun Tryz.prog (Builtin.len_ #[9] 3 #[v36])).bind fun v37 =>
  (bin .gtr v37 (Value.int IntKind.i64 100)).bind fun v38 =>
  (asB v38).bind fun c34 =>
  if c34 then
    some (Res.ret [(Value.int IntKind.i64 191)] r32.2)
  else
  (prun Tryz.prog (Instr.fieldAt 51 r4.1 4)).bind fun v40 =>
  (rrun Tryz.prog (Instr.loadAt 9 v40) r32.2).bind fun v41 =>
  (call 39 #[v41] r32.2).bind fun r42 =>
  (prun Tryz.prog (Op.unary .not r42.1)).bind fun v43 =>
  (asB v43).bind fun c39 =>
  if c39 then
    some (Res.ret [(Value.int IntKind.i64 192)] r42.2)
  else
  some (Res.norm [] r42.2)).bind fun (r : Res) => (r.unblock 0).cont fun vs W1 =>
  some (Res.ret [(Value.int IntKind.i64 0)] W1)).bind Res.done
theorem f40.eq (call dfr : CallF) (ahead0 : Value) (e1 : Value) (day2 : Value) (W0 : World) : aFun Tryz.prog call dfr Tryz.f40 f40.ann (ofArgs #[ahead0, e1, day2]) W0 = f40 call ahead0 e1 day2 W0 := by kernel_rfl

/-- dailies/dailieslaw19.raw -/
def f41.ann : Ann := (.s .z (.s (.s .z (.c (.s .z .z) .z)) (.s .z .z)))
noncomputable def f41 (call : CallF) (l0 : Value) (i1 : Value) (W0 : World) : Option (Value × World) :=
  ((prun Tryz.prog (Builtin.len_ #[42] 3 #[l0])).bind fun v6 =>
  (bin .eql v6 (Value.int IntKind.i64 0)).bind fun v7 =>
  (asB v7).bind fun c7 =>
  if c7 then
    some (Res.ret [(Value.int IntKind.i64 0)] W0)
  else
  (prun Tryz.prog (Builtin.len_ #[42] 3 #[l0])).bind fun v11 =>
  (bin .rem i1 v11).bind fun v12 =>
  (prun Tryz.prog (Instr.indexAt 42 l0 v12)).bind fun v13 =>
  (rrun Tryz.prog (Instr.loadAt 3 v13) W0).bind fun v14 =>
  some (Res.ret [v14] W0)).bind Res.done
theorem f41.eq (call dfr : CallF) (l0 : Value) (i1 : Value) (W0 : World) : aFun Tryz.prog call dfr Tryz.f41 f41.ann (ofArgs #[l0, i1]) W0 = f41 call l0 i1 W0 := by kernel_rfl

/-- dailies/dailiesref19.rateName -/
def f42.ann : Ann := (.s .z (.s (.s .z (.b [] (.s .z (.c (.s .z .z) (.s .z (.c (.s .z .z) (.s .z (.c (.s .z .z) (.s .z (.c (.s .z .z) (.s .z (.c (.s .z .z) (.s .z (.c (.s .z .z) (.s .z (.c (.s .z .z) .z)))))))))))))))) (.s .z .z)))
noncomputable def f42 (call : CallF) (r0 : Value) (W0 : World) : Option (Value × World) :=
  (((bin .eql r0 (Value.int IntKind.i64 1)).bind fun v5 =>
  (asB v5).bind fun c4 =>
  if c4 then
    some (Res.ret [(Value.string { data := #[50, 52] })] W0)
  else
  (bin .eql r0 (Value.int IntKind.i64 2)).bind fun v7 =>
  (asB v7).bind fun c6 =>
  if c6 then
    some (Res.ret [(Value.string { data := #[50, 53] })] W0)
  else
  (bin .eql r0 (Value.int IntKind.i64 3)).bind fun v9 =>
  (asB v9).bind fun c8 =>
  if c8 then
    some (Res.ret [(Value.string { data := #[51, 48] })] W0)
  else
  (bin .eql r0 (Value.int IntKind.i64 4)).bind fun v11 =>
  (asB v11).bind fun c10 =>
  if c10 then
    some (Res.ret [(Value.string { data := #[51, 48, 100] })] W0)
  else
  (bin .eql r0 (Value.int IntKind.i64 5)).bind fun v13 =>
  (asB v13).bind fun c12 =>
  if c12 then
    some (Res.ret [(Value.string { data := #[53, 48] })] W0)
  else
  (bin .eql r0 (Value.int IntKind.i64 6)).bind fun v15 =>
  (asB v15).bind fun c14 =>
  if c14 then
    some (Res.ret [(Value.string { data := #[54, 48] })] W0)
  else
  (bin .eql r0 (Value.int IntKind.i64 7)).bind fun v17 =>
  (asB v17).bind fun c16 =>
  if c16 then
    some (Res.ret [(Value.string { data := #[54, 48, 100] })] W0)
  else
  some (Res.norm [] W0)).bind fun (r : Res) => (r.unblock 0).cont fun vs W1 =>
  some (Res.ret [(Value.string { data := #[] })] W1)).bind Res.done
theorem f42.eq (call dfr : CallF) (r0 : Value) (W0 : World) : aFun Tryz.prog call dfr Tryz.f42 f42.ann (ofArgs #[r0]) W0 = f42 call r0 W0 := by kernel_rfl

/-- dailies/dailiesref19.quoted -/
def f43.ann : Ann := (.s .z (.s .z (.s (.s .z (.b [3] (.l [0, 3, 4] (.s (.s .z (.c .z .z)) (.s (.b [0, 3, 4] (.s .z (.b [0, 3, 4] (.s .z (.c .z (.s .z (.c .z (.s .z (.c .z .z))))))))) .z))))) (.s .z .z))))
noncomputable def f43.l0 (call : CallF) (vs : List Value) (W1 : World) : Option Res :=
  let s0_1 := nth vs 0
  let out3 := nth vs 1
  let i4 := nth vs 2
  (prun Tryz.prog (Builtin.len_ #[9] 3 #[s0_1])).bind fun v7 =>
  (bin .lss i4 v7).bind fun v8 =>
  (asB v8).bind fun c8 =>
  if c8 then
    ((prun Tryz.prog (Instr.index 9 s0_1 i4)).bind fun v13 =>
    ((bin .eql v13 (Value.int IntKind.u8 34)).bind fun v22 =>
    (asB v22).bind fun c21 =>
    if c21 then
      (prun Tryz.prog (do eqGuard .add 9 (Operand.tmp 23) (Operand.const (Value.string { data := #[92, 34] })) out3 (Value.string { data := #[92, 34] }); binOp .add 9 out3 (Value.string { data := #[92, 34] }))).bind fun v24 =>
      some (Res.norm [s0_1, v24, i4] W1)
    else
    (bin .eql v13 (Value.int IntKind.u8 92)).bind fun v26 =>
    (asB v26).bind fun c25 =>
    if c25 then
      (prun Tryz.prog (do eqGuard .add 9 (Operand.tmp 27) (Operand.const (Value.string { data := #[92, 92] })) out3 (Value.string { data := #[92, 92] }); binOp .add 9 out3 (Value.string { data := #[92, 92] }))).bind fun v28 =>
      some (Res.norm [s0_1, v28, i4] W1)
    else
    (bin .eql v13 (Value.int IntKind.u8 10)).bind fun v30 =>
    (asB v30).bind fun c29 =>
    if c29 then
      (prun Tryz.prog (do eqGuard .add 9 (Operand.tmp 31) (Operand.const (Value.string { data := #[92, 110] })) out3 (Value.string { data := #[92, 110] }); binOp .add 9 out3 (Value.string { data := #[92, 110] }))).bind fun v32 =>
      some (Res.norm [s0_1, v32, i4] W1)
    else
    (bin .add i4 (Value.int IntKind.i64 1)).bind fun v18 =>
    (prun Tryz.prog (Instr.sliceAt 9 s0_1 (some i4) (some v18) none)).bind fun v19 =>
    (prun Tryz.prog (do eqGuard .add 9 (Operand.tmp 14) (Operand.tmp 19) out3 v19; binOp .add 9 out3 v19)).bind fun v20 =>
    some (Res.norm [s0_1, v20, i4] W1)).bind fun (r : Res) => (r.unblock 2).cont fun vs_1 W2 =>
    let s0_2 := nth vs_1 0
    let out3_1 := nth vs_1 1
    let i4_1 := nth vs_1 2
    some (Res.norm [s0_2, out3_1, i4_1] W2)).bind fun (r : Res) => (r.unblock 1).cont fun vs_2 W3 =>
    let s0_3 := nth vs_2 0
    let out3_2 := nth vs_2 1
    let i4_2 := nth vs_2 2
    (bin .add i4_2 (Value.int IntKind.i64 1)).bind fun v10 =>
    some (Res.norm [s0_3, out3_2, v10] W3)
  else
  some (Res.exit 0 [out3] W1)
noncomputable def f43 (call : CallF) (s0 : Value) (W0 : World) : Option (Value × World) :=
  ((iter (f43.l0 call) [s0, (Value.string { data := #[34] }), (Value.int IntKind.i64 0)] W0).bind fun (r : Res) => (r.unblock 0).cont fun vs_3 W4 =>
  let out3_3 := nth vs_3 0
  (prun Tryz.prog (do eqGuard .add 9 (Operand.tmp 33) (Operand.const (Value.string { data := #[34] })) out3_3 (Value.string { data := #[34] }); binOp .add 9 out3_3 (Value.string { data := #[34] }))).bind fun v34 =>
  some (Res.ret [v34] W4)).bind Res.done
theorem f43.eq (call dfr : CallF) (s0 : Value) (W0 : World) : aFun Tryz.prog call dfr Tryz.f43 f43.ann (ofArgs #[s0]) W0 = f43 call s0 W0 := by kernel_rfl

/-- dailies/dailiesref19.digits -/
def f44.ann : Ann := (.s .z (.s .z (.s (.s .z (.b [3] (.l [0, 3] (.s (.s .z (.c .z .z)) (.s (.b [0, 3] .z) .z))))) (.s .z .z))))
noncomputable def f44.l0 (call : CallF) (vs : List Value) (W1 : World) : Option Res :=
  let n0_1 := nth vs 0
  let s3 := nth vs 1
  (bin .gtr n0_1 (Value.int IntKind.i64 0)).bind fun v13 =>
  (asB v13).bind fun c13 =>
  if c13 then
    ((bin .rem n0_1 (Value.int IntKind.i64 10)).bind fun v17 =>
    (bin .rem n0_1 (Value.int IntKind.i64 10)).bind fun v19 =>
    (bin .add v19 (Value.int IntKind.i64 1)).bind fun v20 =>
    (prun Tryz.prog (Instr.sliceAt 9 (Value.string { data := #[48, 49, 50, 51, 52, 53, 54, 55, 56, 57] }) (some v17) (some v20) none)).bind fun v21 =>
    (prun Tryz.prog (do eqGuard .add 9 (Operand.tmp 21) (Operand.tmp 22) v21 s3; binOp .add 9 v21 s3)).bind fun v23 =>
    some (Res.norm [n0_1, v23] W1)).bind fun (r : Res) => (r.unblock 1).cont fun vs_1 W2 =>
    let n0_2 := nth vs_1 0
    let s3_1 := nth vs_1 1
    (bin .quo n0_2 (Value.int IntKind.i64 10)).bind fun v15 =>
    some (Res.norm [v15, s3_1] W2)
  else
  some (Res.exit 0 [s3] W1)
noncomputable def f44 (call : CallF) (n0 : Value) (W0 : World) : Option (Value × World) :=
  ((bin .rem n0 (Value.int IntKind.i64 10)).bind fun v5 =>
  (bin .rem n0 (Value.int IntKind.i64 10)).bind fun v7 =>
  (bin .add v7 (Value.int IntKind.i64 1)).bind fun v8 =>
  (prun Tryz.prog (Instr.sliceAt 9 (Value.string { data := #[48, 49, 50, 51, 52, 53, 54, 55, 56, 57] }) (some v5) (some v8) none)).bind fun v9 =>
  (bin .quo n0 (Value.int IntKind.i64 10)).bind fun v11 =>
  (iter (f44.l0 call) [v11, v9] W0).bind fun (r : Res) => (r.unblock 0).cont fun vs_2 W3 =>
  let s3_2 := nth vs_2 0
  some (Res.ret [s3_2] W3)).bind Res.done
theorem f44.eq (call dfr : CallF) (n0 : Value) (W0 : World) : aFun Tryz.prog call dfr Tryz.f44 f44.ann (ofArgs #[n0]) W0 = f44 call n0 W0 := by kernel_rfl

/-- dailies/dailiesref18.Name -/
def f45.ann : Ann := (.s .z (.s .z (.s (.s .z (.c (.s .z .z) .z)) (.s .z (.s .z .z)))))
noncomputable def f45 (call : CallF) (r0 : Value) (n1 : Value) (W0 : World) : Option (Value × World) :=
  ((call 84 #[r0, n1] W0).bind fun r12 =>
  (bin .neq r12.1 (Value.int IntKind.i64 0)).bind fun v14 =>
  (asB v14).bind fun c14 =>
  if c14 then
    some (Res.ret [(Value.string { data := #[] }), r12.1] r12.2)
  else
  (call 85 #[r0, n1] r12.2).bind fun r19 =>
  (prun Tryz.prog (Instr.extract r19.1 0)).bind fun v20 =>
  (prun Tryz.prog (Instr.extract r19.1 1)).bind fun v21 =>
  (prun Tryz.prog (Instr.extract r19.1 2)).bind fun v22 =>
  (bin .quo v20 (Value.int IntKind.i64 60)).bind fun v24 =>
  (call 86 #[v24] r19.2).bind fun r25 =>
  (prun Tryz.prog (do eqGuard .add 9 (Operand.tmp 25) (Operand.const (Value.string { data := #[58] })) r25.1 (Value.string { data := #[58] }); binOp .add 9 r25.1 (Value.string { data := #[58] }))).bind fun v26 =>
  (bin .rem v20 (Value.int IntKind.i64 60)).bind fun v28 =>
  (call 86 #[v28] r25.2).bind fun r29 =>
  (prun Tryz.prog (do eqGuard .add 9 (Operand.tmp 26) (Operand.tmp 29) v26 r29.1; binOp .add 9 v26 r29.1)).bind fun v30 =>
  (prun Tryz.prog (do eqGuard .add 9 (Operand.tmp 30) (Operand.const (Value.string { data := #[58] })) v30 (Value.string { data := #[58] }); binOp .add 9 v30 (Value.string { data := #[58] }))).bind fun v31 =>
  (call 87 #[r0] r29.2).bind fun r34 =>
  (bin .quo v21 r34.1).bind fun v35 =>
  (call 86 #[v35] r34.2).bind fun r36 =>
  (prun Tryz.prog (do eqGuard .add 9 (Operand.tmp 31) (Operand.tmp 36) v31 r36.1; binOp .add 9 v31 r36.1)).bind fun v37 =>
  (call 88 #[r0] r36.2).bind fun r39 =>
  (prun Tryz.prog (do eqGuard .add 9 (Operand.tmp 37) (Operand.tmp 39) v37 r39.1; binOp .add 9 v37 r39.1)).bind fun v40 =>
  (call 87 #[r0] r39.2).bind fun r43 =>
  (bin .rem v21 r43.1).bind fun v44 =>
  (call 86 #[v44] r43.2).bind fun r45 =>
  (prun Tryz.prog (do eqGuard .add 9 (Operand.tmp 40) (Operand.tmp 45) v40 r45.1; binOp .add 9 v40 r45.1)).bind fun v46 =>
  some (Res.ret [v46, (Value.int IntKind.i64 0)] r45.2)).bind Res.done
theorem f45.eq (call dfr : CallF) (r0 : Value) (n1 : Value) (W0 : World) : aFun Tryz.prog call dfr Tryz.f45 f45.ann (ofArgs #[r0, n1]) W0 = f45 call r0 n1 W0 := by kernel_rfl

/-- dailies/cuts.frames -/
def f46.ann : Ann := (.s .z (.s .z .z))
noncomputable def f46 (call : CallF) (e0 : Value) (W0 : World) : Option (Value × World) :=
  ((erun Tryz.prog (Instr.box 51 e0) W0).bind fun r1 =>
  (prun Tryz.prog (Instr.fieldAt 51 r1.1 2)).bind fun v3 =>
  (rrun Tryz.prog (Instr.loadAt 3 v3) r1.2).bind fun v4 =>
  (prun Tryz.prog (Instr.fieldAt 51 r1.1 1)).bind fun v5 =>
  (rrun Tryz.prog (Instr.loadAt 3 v5) r1.2).bind fun v6 =>
  (bin .sub v4 v6).bind fun v7 =>
  some (Res.ret [v7] r1.2)).bind Res.done
theorem f46.eq (call dfr : CallF) (e0 : Value) (W0 : World) : aFun Tryz.prog call dfr Tryz.f46 f46.ann (ofArgs #[e0]) W0 = f46 call e0 W0 := by kernel_rfl

/-- (*dailies/cuts.EventError).Unwrap -/
def f47.ann : Ann := (.s .z (.s .z .z))
noncomputable def f47 (call : CallF) (e0 : Value) (W0 : World) : Option (Value × World) :=
  ((nilV Tryz.prog e0).bind fun v4 =>
  (prun Tryz.prog (Instr.fieldAt 101 v4 1)).bind fun v5 =>
  (rrun Tryz.prog (Instr.loadAt 35 v5) W0).bind fun v6 =>
  (prun Tryz.prog (Instr.makeInterface 35 v6)).bind fun v7 =>
  some (Res.ret [v7] W0)).bind Res.done
theorem f47.eq (call dfr : CallF) (e0 : Value) (W0 : World) : aFun Tryz.prog call dfr Tryz.f47 f47.ann (ofArgs #[e0]) W0 = f47 call e0 W0 := by kernel_rfl

/-- dailies/dailieslaw19.digits -/
def f48.ann : Ann := (.s .z (.s .z (.s .z (.s (.s .z (.j [3, 4] (.s .z .z) .z)) (.s .z (.s (.s .z (.b [3, 5] (.l [3, 4, 5] (.s (.s .z (.c .z .z)) (.s (.b [3, 4, 5] .z) .z))))) (.s .z .z)))))))
noncomputable def f48.l0 (call : CallF) (vs_1 : List Value) (W2 : World) : Option Res :=
  let sign3_1 := nth vs_1 0
  let u4_1 := nth vs_1 1
  let s5 := nth vs_1 2
  (bin .gtr u4_1 (Value.int IntKind.u64 0)).bind fun v24 =>
  (asB v24).bind fun c24 =>
  if c24 then
    ((bin .rem u4_1 (Value.int IntKind.u64 10)).bind fun v28 =>
    (bin .rem u4_1 (Value.int IntKind.u64 10)).bind fun v30 =>
    (bin .add v30 (Value.int IntKind.u64 1)).bind fun v31 =>
    (prun Tryz.prog (Instr.sliceAt 9 (Value.string { data := #[48, 49, 50, 51, 52, 53, 54, 55, 56, 57] }) (some v28) (some v31) none)).bind fun v32 =>
    (prun Tryz.prog (do eqGuard .add 9 (Operand.tmp 32) (Operand.tmp 33) v32 s5; binOp .add 9 v32 s5)).bind fun v34 =>
    some (Res.norm [sign3_1, u4_1, v34] W2)).bind fun (r : Res) => (r.unblock 1).cont fun vs_2 W3 =>
    let sign3_2 := nth vs_2 0
    let u4_2 := nth vs_2 1
    let s5_1 := nth vs_2 2
    (bin .quo u4_2 (Value.int IntKind.u64 10)).bind fun v26 =>
    some (Res.norm [sign3_2, v26, s5_1] W3)
  else
  some (Res.exit 0 [sign3_1, s5] W2)
noncomputable def f48 (call : CallF) (n0 : Value) (W0 : World) : Option (Value × World) :=
  ((prun Tryz.prog (convert 3 159 n0)).bind fun v7 =>
  (bin .lss n0 (Value.int IntKind.i64 0)).bind fun v9 =>
  (asB v9).bind fun c9 =>
  (if c9 then
    (bin .add n0 (Value.int IntKind.i64 1)).bind fun v11 =>
    (prun Tryz.prog (Op.unary .neg v11)).bind fun v12 =>
    (prun Tryz.prog (convert 3 159 v12)).bind fun v13 =>
    (bin .add v13 (Value.int IntKind.u64 1)).bind fun v14 =>
    some (Res.norm [(Value.string { data := #[45] }), v14] W0)
   else
    some (Res.norm [(Value.string { data := #[] }), v7] W0)).bind fun (r : Res) => r.cont fun vs W1 =>
  let sign3 := nth vs 0
  let u4 := nth vs 1
  (bin .rem u4 (Value.int IntKind.u64 10)).bind fun v16 =>
  (bin .rem u4 (Value.int IntKind.u64 10)).bind fun v18 =>
  (bin .add v18 (Value.int IntKind.u64 1)).bind fun v19 =>
  (prun Tryz.prog (Instr.sliceAt 9 (Value.string { data := #[48, 49, 50, 51, 52, 53, 54, 55, 56, 57] }) (some v16) (some v19) none)).bind fun v20 =>
  (bin .quo u4 (Value.int IntKind.u64 10)).bind fun v22 =>
  (iter (f48.l0 call) [sign3, v22, v20] W1).bind fun (r : Res) => (r.unblock 0).cont fun vs_3 W4 =>
  let sign3_3 := nth vs_3 0
  let s5_2 := nth vs_3 1
  (prun Tryz.prog (do eqGuard .add 9 (Operand.tmp 35) (Operand.tmp 36) sign3_3 s5_2; binOp .add 9 sign3_3 s5_2)).bind fun v37 =>
  some (Res.ret [v37] W4)).bind Res.done
theorem f48.eq (call dfr : CallF) (n0 : Value) (W0 : World) : aFun Tryz.prog call dfr Tryz.f48 f48.ann (ofArgs #[n0]) W0 = f48 call n0 W0 := by kernel_rfl

/-- dailies/cuts.rateName -/
def f49.ann : Ann := (.s .z (.s (.s .z (.b [] (.s .z (.c (.s .z .z) (.s .z (.c (.s .z .z) (.s .z (.c (.s .z .z) (.s .z (.c (.s .z .z) (.s .z (.c (.s .z .z) (.s .z (.c (.s .z .z) (.s .z (.c (.s .z .z) .z)))))))))))))))) (.s .z .z)))
noncomputable def f49 (call : CallF) (r0 : Value) (W0 : World) : Option (Value × World) :=
  (((bin .eql r0 (Value.int IntKind.i64 1)).bind fun v5 =>
  (asB v5).bind fun c4 =>
  if c4 then
    some (Res.ret [(Value.string { data := #[50, 52] })] W0)
  else
  (bin .eql r0 (Value.int IntKind.i64 2)).bind fun v7 =>
  (asB v7).bind fun c6 =>
  if c6 then
    some (Res.ret [(Value.string { data := #[50, 53] })] W0)
  else
  (bin .eql r0 (Value.int IntKind.i64 3)).bind fun v9 =>
  (asB v9).bind fun c8 =>
  if c8 then
    some (Res.ret [(Value.string { data := #[51, 48] })] W0)
  else
  (bin .eql r0 (Value.int IntKind.i64 4)).bind fun v11 =>
  (asB v11).bind fun c10 =>
  if c10 then
    some (Res.ret [(Value.string { data := #[51, 48, 100] })] W0)
  else
  (bin .eql r0 (Value.int IntKind.i64 5)).bind fun v13 =>
  (asB v13).bind fun c12 =>
  if c12 then
    some (Res.ret [(Value.string { data := #[53, 48] })] W0)
  else
  (bin .eql r0 (Value.int IntKind.i64 6)).bind fun v15 =>
  (asB v15).bind fun c14 =>
  if c14 then
    some (Res.ret [(Value.string { data := #[54, 48] })] W0)
  else
  (bin .eql r0 (Value.int IntKind.i64 7)).bind fun v17 =>
  (asB v17).bind fun c16 =>
  if c16 then
    some (Res.ret [(Value.string { data := #[54, 48, 100] })] W0)
  else
  some (Res.norm [] W0)).bind fun (r : Res) => (r.unblock 0).cont fun vs W1 =>
  some (Res.ret [(Value.string { data := #[] })] W1)).bind Res.done
theorem f49.eq (call dfr : CallF) (r0 : Value) (W0 : World) : aFun Tryz.prog call dfr Tryz.f49 f49.ann (ofArgs #[r0]) W0 = f49 call r0 W0 := by kernel_rfl

/-- dailies/cuts.quoted -/
def f50.ann : Ann := (.s .z (.s .z (.s (.s .z (.b [3] (.l [3, 8] (.s .z (.s (.c .z .z) (.b [3, 8] (.s .z (.s .z (.b [3, 8] (.s (.s .z (.j [3, 5, 8, 12, 16] .z .z)) (.c .z (.s .z (.c .z .z))))))))))))) (.s .z .z))))
noncomputable def f50.l0 (call : CallF) (vs : List Value) (W1 : World) : Option Res :=
  let out3 := nth vs 0
  let v8 := nth vs 1
  (erun Tryz.prog (Instr.next v8 true 0) W1).bind fun r9 =>
  (prun Tryz.prog (Instr.extract r9.1 0)).bind fun v10 =>
  (asB v10).bind fun c10 =>
  if c10 then
    ((prun Tryz.prog (Instr.extract r9.1 2)).bind fun v11 =>
    ((bin .eql v11 (Value.int IntKind.i32 34)).bind fun v17 =>
    (asB v17).bind fun c16 =>
    (if c16 then
      some (Res.norm [out3, v11, v8, v11, v17] r9.2)
     else
      (bin .eql v11 (Value.int IntKind.i32 92)).bind fun v18 =>
      some (Res.norm [out3, v11, v8, v11, v18] r9.2)).bind fun (r : Res) => r.cont fun vs_1 W2 =>
    let out3_1 := nth vs_1 0
    let r5 := nth vs_1 1
    let v8_1 := nth vs_1 2
    let v12 := nth vs_1 3
    let v16 := nth vs_1 4
    (asB v16).bind fun c16_1 =>
    if c16_1 then
      (prun Tryz.prog (convert 21 5 r5)).bind fun v21 =>
      (erun Tryz.prog (Instr.buildSlice 160 2 #[(0, (Value.int IntKind.u8 92)), (1, v21)]) W2).bind fun r22 =>
      (erun Tryz.prog (Builtin.append_ #[160, 160] 160 #[out3_1, r22.1]) r22.2).bind fun r23 =>
      some (Res.norm [r23.1, v8_1] r23.2)
    else
    (bin .eql v12 (Value.int IntKind.i32 10)).bind fun v25 =>
    (asB v25).bind fun c24 =>
    if c24 then
      (erun Tryz.prog (Instr.buildSlice 160 2 #[(0, (Value.int IntKind.u8 92)), (1, (Value.int IntKind.u8 110))]) W2).bind fun r27 =>
      (erun Tryz.prog (Builtin.append_ #[160, 160] 160 #[out3_1, r27.1]) r27.2).bind fun r28 =>
      some (Res.norm [r28.1, v8_1] r28.2)
    else
    (call 89 #[out3_1, r5] W2).bind fun r15 =>
    some (Res.norm [r15.1, v8_1] r15.2)).bind fun (r : Res) => (r.unblock 2).cont fun vs_2 W3 =>
    let out3_2 := nth vs_2 0
    let v8_2 := nth vs_2 1
    some (Res.norm [out3_2, v8_2] W3)).bind fun (r : Res) => (r.unblock 1).cont fun vs_3 W4 =>
    let out3_3 := nth vs_3 0
    let v8_3 := nth vs_3 1
    some (Res.norm [out3_3, v8_3] W4)
  else
  some (Res.exit 0 [out3] r9.2)
noncomputable def f50 (call : CallF) (s0 : Value) (W0 : World) : Option (Value × World) :=
  ((erun Tryz.prog (Instr.buildSlice 160 1 #[(0, (Value.int IntKind.u8 34))]) W0).bind fun r6 =>
  (erun Tryz.prog (Instr.range 9 s0) r6.2).bind fun r8 =>
  (iter (f50.l0 call) [r6.1, r8.1] r8.2).bind fun (r : Res) => (r.unblock 0).cont fun vs_4 W5 =>
  let out3_4 := nth vs_4 0
  (erun Tryz.prog (Instr.buildSlice 160 1 #[(0, (Value.int IntKind.u8 34))]) W5).bind fun r30 =>
  (erun Tryz.prog (Builtin.append_ #[160, 160] 160 #[out3_4, r30.1]) r30.2).bind fun r31 =>
  (rrun Tryz.prog (convert 160 9 r31.1) r31.2).bind fun v32 =>
  some (Res.ret [v32] r31.2)).bind Res.done
theorem f50.eq (call dfr : CallF) (s0 : Value) (W0 : World) : aFun Tryz.prog call dfr Tryz.f50 f50.ann (ofArgs #[s0]) W0 = f50 call s0 W0 := by kernel_rfl

/-- dailies/cuts.line -/
def f51.ann : Ann := (.s .z (.s .z (.s .z (.s .z (.s (.s .z (.j [2, 5, 7, 9] .z .z)) (.s .z (.s (.s .z (.j [9] .z .z)) (.s .z .z))))))))
noncomputable def f51 (call : CallF) (e0 : Value) (r1 : Value) (W0 : World) : Option (Value × World) :=
  ((erun Tryz.prog (Instr.box 51 e0) W0).bind fun r2 =>
  (prun Tryz.prog (Instr.fieldAt 51 r2.1 1)).bind fun v12 =>
  (rrun Tryz.prog (Instr.loadAt 3 v12) r2.2).bind fun v13 =>
  (call 90 #[r1, v13] r2.2).bind fun r14 =>
  (prun Tryz.prog (Instr.extract r14.1 0)).bind fun v15 =>
  (prun Tryz.prog (Instr.extract r14.1 1)).bind fun v16 =>
  (prun Tryz.prog (Instr.fieldAt 51 r2.1 2)).bind fun v19 =>
  (rrun Tryz.prog (Instr.loadAt 3 v19) r14.2).bind fun v20 =>
  (call 90 #[r1, v20] r14.2).bind fun r21 =>
  (prun Tryz.prog (Instr.extract r21.1 0)).bind fun v22 =>
  (prun Tryz.prog (Instr.extract r21.1 1)).bind fun v23 =>
  (prun Tryz.prog (Instr.fieldAt 51 r2.1 3)).bind fun v24 =>
  (rrun Tryz.prog (Instr.loadAt 3 v24) r21.2).bind fun v25 =>
  (bin .gtr v25 (Value.int IntKind.i64 0)).bind fun v26 =>
  (asB v26).bind fun c26 =>
  (if c26 then
    (prun Tryz.prog (Instr.fieldAt 51 r2.1 3)).bind fun v27 =>
    (rrun Tryz.prog (Instr.loadAt 3 v27) r21.2).bind fun v28 =>
    (call 91 #[v28] r21.2).bind fun r29 =>
    (prun Tryz.prog (do eqGuard .add 9 (Operand.const (Value.string { data := #[102, 97, 100, 101, 32] })) (Operand.tmp 29) (Value.string { data := #[102, 97, 100, 101, 32] }) r29.1; binOp .add 9 (Value.string { data := #[102, 97, 100, 101, 32] }) r29.1)).bind fun v30 =>
    (prun Tryz.prog (do eqGuard .add 9 (Operand.tmp 30) (Operand.const (Value.string { data := #[32] })) v30 (Value.string { data := #[32] }); binOp .add 9 v30 (Value.string { data := #[32] }))).bind fun v31 =>
    some (Res.norm [r2.1, v15, v22, v31] r29.2)
   else
    some (Res.norm [r2.1, v15, v22, (Value.string { data := #[99, 117, 116, 32] })] r21.2)).bind fun (r : Res) => r.cont fun vs W1 =>
  let e2 := nth vs 0
  let in5 := nth vs 1
  let out7 := nth vs 2
  let s9 := nth vs 3
  (prun Tryz.prog (Instr.fieldAt 51 e2 0)).bind fun v33 =>
  (rrun Tryz.prog (Instr.loadAt 9 v33) W1).bind fun v34 =>
  (prun Tryz.prog (do eqGuard .add 9 (Operand.tmp 34) (Operand.const (Value.string { data := #[32] })) v34 (Value.string { data := #[32] }); binOp .add 9 v34 (Value.string { data := #[32] }))).bind fun v35 =>
  (prun Tryz.prog (do eqGuard .add 9 (Operand.tmp 35) (Operand.tmp 36) v35 in5; binOp .add 9 v35 in5)).bind fun v37 =>
  (prun Tryz.prog (do eqGuard .add 9 (Operand.tmp 37) (Operand.const (Value.string { data := #[32] })) v37 (Value.string { data := #[32] }); binOp .add 9 v37 (Value.string { data := #[32] }))).bind fun v38 =>
  (prun Tryz.prog (do eqGuard .add 9 (Operand.tmp 38) (Operand.tmp 39) v38 out7; binOp .add 9 v38 out7)).bind fun v40 =>
  (prun Tryz.prog (do eqGuard .add 9 (Operand.tmp 32) (Operand.tmp 40) s9 v40; binOp .add 9 s9 v40)).bind fun v41 =>
  (prun Tryz.prog (Instr.fieldAt 51 e2 4)).bind fun v42 =>
  (rrun Tryz.prog (Instr.loadAt 9 v42) W1).bind fun v43 =>
  (prun Tryz.prog (do eqGuard .neq 9 (Operand.tmp 43) (Operand.const (Value.string { data := #[] })) v43 (Value.string { data := #[] }); binOp .neq 9 v43 (Value.string { data := #[] }))).bind fun v44 =>
  (asB v44).bind fun c44 =>
  (if c44 then
    (prun Tryz.prog (Instr.fieldAt 51 e2 4)).bind fun v46 =>
    (rrun Tryz.prog (Instr.loadAt 9 v46) W1).bind fun v47 =>
    (call 50 #[v47] W1).bind fun r48 =>
    (prun Tryz.prog (do eqGuard .add 9 (Operand.const (Value.string { data := #[32] })) (Operand.tmp 48) (Value.string { data := #[32] }) r48.1; binOp .add 9 (Value.string { data := #[32] }) r48.1)).bind fun v49 =>
    (prun Tryz.prog (do eqGuard .add 9 (Operand.tmp 45) (Operand.tmp 49) v41 v49; binOp .add 9 v41 v49)).bind fun v50 =>
    some (Res.norm [v50] r48.2)
   else
    some (Res.norm [v41] W1)).bind fun (r : Res) => r.cont fun vs_1 W2 =>
  let s9_1 := nth vs_1 0
  (prun Tryz.prog (do eqGuard .add 9 (Operand.tmp 51) (Operand.const (Value.string { data := #[10] })) s9_1 (Value.string { data := #[10] }); binOp .add 9 s9_1 (Value.string { data := #[10] }))).bind fun v52 =>
  some (Res.ret [v52] W2)).bind Res.done
theorem f51.eq (call dfr : CallF) (e0 : Value) (r1 : Value) (W0 : World) : aFun Tryz.prog call dfr Tryz.f51 f51.ann (ofArgs #[e0, r1]) W0 = f51 call e0 r1 W0 := by kernel_rfl

/-- errors.is -/
def f53.ann : Ann := (.s .z (.b [6] (.l [0, 1, 2] (.b [0, 1, 2] (.s (.s .z (.c (.s .z .z) .z)) (.s (.s .z (.s .z (.c (.s .z .z) .z))) (.s .z (.b [0, 1, 2] (.s .z (.c (.s .z (.s .z (.s .z (.c (.s .z .z) .z)))) (.s .z (.c (.s .z (.s (.s .z (.b [] (.l [1, 2, 43, 44, 45] (.s .z (.s (.c .z .z) (.s (.b [1, 2, 43, 44, 45] (.s .z (.s .z (.c (.s .z .z) .z)))) .z)))))) (.s .z .z))) (.s .z (.s .z .z))))))))))))))
noncomputable def f53.l0 (call : CallF) (vs_1 : List Value) (W2 : World) : Option Res :=
  let target1_2 := nth vs_1 0
  let targetComparable2_2 := nth vs_1 1
  let v43 := nth vs_1 2
  let v44_1 := nth vs_1 3
  let v45 := nth vs_1 4
  (bin .lss v45 v44_1).bind fun v46 =>
  (asB v46).bind fun c46 =>
  if c46 then
    ((prun Tryz.prog (Instr.indexAt 170 v43 v45)).bind fun v47 =>
    (rrun Tryz.prog (Instr.loadAt 32 v47) W2).bind fun v48 =>
    (call 53 #[v48, target1_2, targetComparable2_2] W2).bind fun r52 =>
    (asB r52.1).bind fun c52 =>
    if c52 then
      some (Res.ret [(Value.bool true)] r52.2)
    else
    some (Res.norm [target1_2, targetComparable2_2, v43, v44_1, v45] r52.2)).bind fun (r : Res) => (r.unblock 4).cont fun vs_2 W3 =>
    let target1_3 := nth vs_2 0
    let targetComparable2_3 := nth vs_2 1
    let v43_1 := nth vs_2 2
    let v44_2 := nth vs_2 3
    let v45_1 := nth vs_2 4
    (bin .add v45_1 (Value.int IntKind.i64 1)).bind fun v53 =>
    some (Res.norm [target1_3, targetComparable2_3, v43_1, v44_2, v53] W3)
  else
  some (Res.exit 3 [] W2)
noncomputable def f53.l1 (call : CallF) (vs : List Value) (W1 : World) : Option Res :=
  let err0_1 := nth vs 0
  let target1_1 := nth vs 1
  let targetComparable2_1 := nth vs 2
  ((asB targetComparable2_1).bind fun b15 =>
  (if b15 = true then (rrun Tryz.prog (do eqGuard .eql 32 (Operand.tmp 16) (Operand.tmp 17) err0_1 target1_1; binOp .eql 32 err0_1 target1_1) W1).bind fun v18 =>
    some (v18, W1)
   else some ((Value.bool false), W1)).bind fun r19 =>
  (asB r19.1).bind fun c19 =>
  if c19 then
    some (Res.ret [(Value.bool true)] r19.2)
  else
  (prun Tryz.prog (Instr.typeAssert err0_1 32 165 true)).bind fun v22 =>
  (prun Tryz.prog (Instr.extract v22 0)).bind fun v23 =>
  (prun Tryz.prog (Instr.extract v22 1)).bind fun v24 =>
  (asB v24).bind fun b26 =>
  (if b26 = true then (imethod Tryz.prog v23 "Is" r19.2).bind fun m29 =>
    (call m29.1 #[m29.2, target1_1] r19.2).bind fun r29 =>
    some (r29.1, r29.2)
   else some ((Value.bool false), r19.2)).bind fun r30 =>
  (asB r30.1).bind fun c30 =>
  if c30 then
    some (Res.ret [(Value.bool true)] r30.2)
  else
  ((prun Tryz.prog (Instr.typeAssert err0_1 32 168 true)).bind fun v32 =>
  (prun Tryz.prog (Instr.extract v32 1)).bind fun v33 =>
  (prun Tryz.prog (Instr.extract v32 0)).bind fun v34 =>
  (asB v33).bind fun c33 =>
  if c33 then
    (imethod Tryz.prog v34 "Unwrap" r30.2).bind fun m36 =>
    (call m36.1 #[m36.2] r30.2).bind fun r36 =>
    (rrun Tryz.prog (do eqGuard .eql 32 (Operand.tmp 37) (Operand.const Value.nilIface) r36.1 Value.nilIface; binOp .eql 32 r36.1 Value.nilIface) r36.2).bind fun v38 =>
    (asB v38).bind fun c38 =>
    if c38 then
      some (Res.ret [(Value.bool false)] r36.2)
    else
    some (Res.norm [r36.1, target1_1, targetComparable2_1] r36.2)
  else
  (prun Tryz.prog (Instr.typeAssert err0_1 32 169 true)).bind fun v39 =>
  (prun Tryz.prog (Instr.extract v39 1)).bind fun v40 =>
  (prun Tryz.prog (Instr.extract v39 0)).bind fun v41 =>
  (asB v40).bind fun c40 =>
  if c40 then
    (imethod Tryz.prog v41 "Unwrap" r30.2).bind fun m43 =>
    (call m43.1 #[m43.2] r30.2).bind fun r43 =>
    (prun Tryz.prog (Builtin.len_ #[170] 3 #[r43.1])).bind fun v44 =>
    (iter (f53.l0 call) [target1_1, targetComparable2_1, r43.1, v44, (Value.int IntKind.i64 0)] r43.2).bind fun (r : Res) => (r.unblock 3).cont fun vs_3 W4 =>
    some (Res.ret [(Value.bool false)] W4)
  else
  some (Res.ret [(Value.bool false)] r30.2)).bind fun (r : Res) => (r.unblock 2).cont fun vs_4 W5 =>
  let err0_2 := nth vs_4 0
  let target1_4 := nth vs_4 1
  let targetComparable2_4 := nth vs_4 2
  some (Res.norm [err0_2, target1_4, targetComparable2_4] W5)).bind fun (r : Res) => (r.unblock 1).cont fun vs_5 W6 =>
  let err0_3 := nth vs_5 0
  let target1_5 := nth vs_5 1
  let targetComparable2_5 := nth vs_5 2
  some (Res.norm [err0_3, target1_5, targetComparable2_5] W6)
noncomputable def f53 (call : CallF) (err0 : Value) (target1 : Value) (targetComparable2 : Value) (W0 : World) : Option (Value × World) :=
  ((iter (f53.l1 call) [err0, target1, targetComparable2] W0).bind fun (r : Res) => (r.unblock 0).cont fun vs_6 W7 =>
  let v6 := nth vs_6 0
  some (Res.norm [v6] W7)).bind Res.done
theorem f53.eq (call dfr : CallF) (err0 : Value) (target1 : Value) (targetComparable2 : Value) (W0 : World) : aFun Tryz.prog call dfr Tryz.f53 f53.ann (ofArgs #[err0, target1, targetComparable2]) W0 = f53 call err0 target1 targetComparable2 W0 := by kernel_rfl

/-- unicode/utf8.DecodeRuneInString -/
def f54.ann : Ann := (.s .z (.s (.s .z (.c (.s .z .z) .z)) .z))
noncomputable def f54 (call : CallF) (s0 : Value) (W0 : World) : Option (Value × World) :=
  ((prun Tryz.prog (do eqGuard .neq 9 (Operand.tmp 4) (Operand.const (Value.string { data := #[] })) s0 (Value.string { data := #[] }); binOp .neq 9 s0 (Value.string { data := #[] }))).bind fun v5 =>
  (asB v5).bind fun b6 =>
  (if b6 = true then (prun Tryz.prog (Instr.index 9 s0 (Value.int IntKind.i64 0))).bind fun v8 =>
    (bin .lss v8 (Value.int IntKind.u8 128)).bind fun v9 =>
    some (v9, W0)
   else some ((Value.bool false), W0)).bind fun r10 =>
  (asB r10.1).bind fun c10 =>
  if c10 then
    (prun Tryz.prog (Instr.index 9 s0 (Value.int IntKind.i64 0))).bind fun v12 =>
    (prun Tryz.prog (convert 5 21 v12)).bind fun v13 =>
    some (Res.ret [v13, (Value.int IntKind.i64 1)] r10.2)
  else
  (call 92 #[s0] r10.2).bind fun r16 =>
  (prun Tryz.prog (Instr.extract r16.1 0)).bind fun v17 =>
  (prun Tryz.prog (Instr.extract r16.1 1)).bind fun v18 =>
  some (Res.ret [v17, v18] r16.2)).bind Res.done
theorem f54.eq (call dfr : CallF) (s0 : Value) (W0 : World) : aFun Tryz.prog call dfr Tryz.f54 f54.ann (ofArgs #[s0]) W0 = f54 call s0 W0 := by kernel_rfl

/-- internal/stringslite.IndexByte -/
def f55.ann : Ann := (.s .z (.s .z .z))
noncomputable def f55 (call : CallF) (s0 : Value) (c1 : Value) (W0 : World) : Option (Value × World) :=
  ((xrun Tryz.prog (callFunc 93 #[s0, c1]) W0).bind fun r7 =>
  some (Res.ret [r7.1] r7.2)).bind Res.done
theorem f55.eq (call dfr : CallF) (s0 : Value) (c1 : Value) (W0 : World) : aFun Tryz.prog call dfr Tryz.f55 f55.ann (ofArgs #[s0, c1]) W0 = f55 call s0 c1 W0 := by kernel_rfl

/-- dailies/cuts.quote -/
def f56.ann : Ann := (.s .z (.s .z (.s .z (.s .z (.s (.s .z (.b [0, 2] (.l [0, 2, 4, 5, 6, 12] (.s .z (.s (.c .z .z) (.b [0, 2, 4, 5, 6, 12] (.s .z (.b [0, 2, 4, 5, 6, 12] (.s .z (.c (.s .z (.s .z (.b [0, 2, 4, 5, 6, 12] (.s (.s .z (.j [0, 2, 4, 5, 6, 8, 12, 22, 24] .z .z)) (.c .z (.s .z (.c .z .z))))))) (.s .z (.c .z (.s .z (.c (.s .z (.s .z .z)) .z)))))))))))))) (.s .z .z))))))
noncomputable def f56.l0 (call : CallF) (vs : List Value) (W1 : World) : Option Res :=
  let s0_1 := nth vs 0
  let v2 := nth vs 1
  let w4 := nth vs 2
  let out5 := nth vs 3
  let turned6 := nth vs 4
  let v12 := nth vs 5
  (erun Tryz.prog (Instr.next v12 true 0) W1).bind fun r13 =>
  (prun Tryz.prog (Instr.extract r13.1 0)).bind fun v14 =>
  (asB v14).bind fun c14 =>
  if c14 then
    ((prun Tryz.prog (Instr.extract r13.1 1)).bind fun v15 =>
    (prun Tryz.prog (Instr.extract r13.1 2)).bind fun v16 =>
    ((asB turned6).bind fun c20 =>
    if c20 then
      ((bin .eql v16 (Value.int IntKind.i32 34)).bind fun v25 =>
      (asB v25).bind fun c24 =>
      (if c24 then
        some (Res.norm [s0_1, v2, w4, out5, (Value.bool false), v16, v12, v16, v25] r13.2)
       else
        (bin .eql v16 (Value.int IntKind.i32 92)).bind fun v26 =>
        some (Res.norm [s0_1, v2, w4, out5, (Value.bool false), v16, v12, v16, v26] r13.2)).bind fun (r : Res) => r.cont fun vs_1 W2 =>
      let s0_2 := nth vs_1 0
      let v2_1 := nth vs_1 1
      let w4_1 := nth vs_1 2
      let out5_1 := nth vs_1 3
      let turned6_1 := nth vs_1 4
      let r8 := nth vs_1 5
      let v12_1 := nth vs_1 6
      let v22 := nth vs_1 7
      let v24 := nth vs_1 8
      (asB v24).bind fun c24_1 =>
      if c24_1 then
        (prun Tryz.prog (convert 21 5 r8)).bind fun v29 =>
        (erun Tryz.prog (Instr.buildSlice 160 1 #[(0, v29)]) W2).bind fun r30 =>
        (erun Tryz.prog (Builtin.append_ #[160, 160] 160 #[out5_1, r30.1]) r30.2).bind fun r31 =>
        some (Res.norm [s0_2, v2_1, w4_1, r31.1, turned6_1, v12_1] r31.2)
      else
      (bin .eql v22 (Value.int IntKind.i32 110)).bind fun v33 =>
      (asB v33).bind fun c32 =>
      if c32 then
        (erun Tryz.prog (Instr.buildSlice 160 1 #[(0, (Value.int IntKind.u8 10))]) W2).bind fun r35 =>
        (erun Tryz.prog (Builtin.append_ #[160, 160] 160 #[out5_1, r35.1]) r35.2).bind fun r36 =>
        some (Res.norm [s0_2, v2_1, w4_1, r36.1, turned6_1, v12_1] r36.2)
      else
      (prun Tryz.prog (Instr.fieldAt 114 w4_1 3)).bind fun v23 =>
      (erun Tryz.prog (Instr.storeAt 4 v23 (Value.bool true)) W2).bind fun r_1 =>
      some (Res.norm [s0_2, v2_1, w4_1, out5_1, turned6_1, v12_1] r_1.2)).bind fun (r : Res) => (r.unblock 3).cont fun vs_2 W3 =>
      let s0_3 := nth vs_2 0
      let v2_2 := nth vs_2 1
      let w4_2 := nth vs_2 2
      let out5_2 := nth vs_2 3
      let turned6_2 := nth vs_2 4
      let v12_2 := nth vs_2 5
      some (Res.norm [s0_3, v2_2, w4_2, out5_2, turned6_2, v12_2] W3)
    else
    (bin .eql v16 (Value.int IntKind.i32 92)).bind fun v39 =>
    (asB v39).bind fun c37 =>
    if c37 then
      some (Res.norm [s0_1, v2, w4, out5, (Value.bool true), v12] r13.2)
    else
    (bin .eql v16 (Value.int IntKind.i32 34)).bind fun v42 =>
    (asB v42).bind fun c40 =>
    if c40 then
      (rrun Tryz.prog (convert 160 9 out5) r13.2).bind fun v44 =>
      (prun Tryz.prog (Instr.fieldAt 114 w4 1)).bind fun v45 =>
      (erun Tryz.prog (Instr.storeAt 9 v45 v44) r13.2).bind fun r_2 =>
      (rrun Tryz.prog (Instr.loadAt 114 w4) r_2.2).bind fun v46 =>
      (bin .add v15 (Value.int IntKind.i64 2)).bind fun v48 =>
      (erun Tryz.prog (Instr.storeAt 114 v2 v46) r_2.2).bind fun r_3 =>
      some (Res.ret [v2, v48] r_3.2)
    else
    (call 89 #[out5, v16] r13.2).bind fun r19 =>
    some (Res.norm [s0_1, v2, w4, r19.1, turned6, v12] r19.2)).bind fun (r : Res) => (r.unblock 2).cont fun vs_3 W4 =>
    let s0_4 := nth vs_3 0
    let v2_3 := nth vs_3 1
    let w4_3 := nth vs_3 2
    let out5_3 := nth vs_3 3
    let turned6_3 := nth vs_3 4
    let v12_3 := nth vs_3 5
    some (Res.norm [s0_4, v2_3, w4_3, out5_3, turned6_3, v12_3] W4)).bind fun (r : Res) => (r.unblock 1).cont fun vs_4 W5 =>
    let s0_5 := nth vs_4 0
    let v2_4 := nth vs_4 1
    let w4_4 := nth vs_4 2
    let out5_4 := nth vs_4 3
    let turned6_4 := nth vs_4 4
    let v12_4 := nth vs_4 5
    some (Res.norm [s0_5, v2_4, w4_4, out5_4, turned6_4, v12_4] W5)
  else
  some (Res.exit 0 [s0_1, v2] r13.2)
noncomputable def f56 (call : CallF) (s0 : Value) (W0 : World) : Option (Value × World) :=
  ((erun Tryz.prog (Instr.alloc 114 true (.tuple #[])) W0).bind fun r2 =>
  (prun Tryz.prog (Instr.build 114 #[(2, (Value.bool true))])).bind fun v9 =>
  (erun Tryz.prog (Instr.alloc 114 true (.tuple #[])) r2.2).bind fun r4 =>
  (erun Tryz.prog (Instr.storeAt 114 r4.1 v9) r4.2).bind fun r =>
  (prun Tryz.prog (Instr.sliceAt 9 s0 (some (Value.int IntKind.i64 1)) none none)).bind fun v11 =>
  (erun Tryz.prog (Instr.range 9 v11) r.2).bind fun r12 =>
  (iter (f56.l0 call) [s0, r2.1, r4.1, (Value.slice none 0 0), (Value.bool false), r12.1] r12.2).bind fun (r : Res) => (r.unblock 0).cont fun vs_5 W6 =>
  let s0_6 := nth vs_5 0
  let v2_5 := nth vs_5 1
  (prun Tryz.prog (Instr.build 114 #[(2, (Value.bool true)), (3, (Value.bool true))])).bind fun v49 =>
  (prun Tryz.prog (Builtin.len_ #[9] 3 #[s0_6])).bind fun v51 =>
  (erun Tryz.prog (Instr.storeAt 114 v2_5 v49) W6).bind fun r_4 =>
  some (Res.ret [v2_5, v51] r_4.2)).bind (Res.doneR Tryz.prog [.cell 2 114, .tmp 3])
theorem f56.eq (call dfr : CallF) (s0 : Value) (W0 : World) : aFun Tryz.prog call dfr Tryz.f56 f56.ann (ofArgs #[s0]) W0 = f56 call s0 W0 := by kernel_rfl

/-- strings.IndexAny -/
def f57.ann : Ann := (.s .z (.s (.s .z (.c (.s .z .z) .z)) (.s (.s .z (.c (.s .z (.s (.s .z (.j [0, 5] .z .z)) (.s .z .z))) .z)) (.s (.s .z (.j [0, 1] (.s .z (.s .z (.c (.s (.s .z (.b [] (.l [0, 6, 8] (.s (.s .z (.c .z .z)) (.s (.b [0, 6, 8] (.s .z (.c (.s .z .z) .z))) .z))))) (.s .z .z)) .z))) .z)) (.s (.s .z (.b [] (.l [1, 45] (.s .z (.s (.c .z .z) (.b [1, 45] (.s .z (.s .z (.c (.s .z .z) .z))))))))) (.s .z .z))))))
noncomputable def f57.l0 (call : CallF) (vs_1 : List Value) (W2 : World) : Option Res :=
  let s0_2 := nth vs_1 0
  let as6 := nth vs_1 1
  let i8 := nth vs_1 2
  (prun Tryz.prog (Builtin.len_ #[9] 3 #[s0_2])).bind fun v35 =>
  (bin .lss i8 v35).bind fun v36 =>
  (asB v36).bind fun c36 =>
  if c36 then
    ((prun Tryz.prog (Instr.index 9 s0_2 i8)).bind fun v41 =>
    (call 97 #[as6, v41] W2).bind fun r42 =>
    (asB r42.1).bind fun c42 =>
    if c42 then
      some (Res.ret [i8] r42.2)
    else
    some (Res.norm [s0_2, as6, i8] r42.2)).bind fun (r : Res) => (r.unblock 1).cont fun vs_2 W3 =>
    let s0_3 := nth vs_2 0
    let as6_1 := nth vs_2 1
    let i8_1 := nth vs_2 2
    (bin .add i8_1 (Value.int IntKind.i64 1)).bind fun v38 =>
    some (Res.norm [s0_3, as6_1, v38] W3)
  else
  some (Res.exit 0 [] W2)
noncomputable def f57.l1 (call : CallF) (vs_5 : List Value) (W6 : World) : Option Res :=
  let chars1_2 := nth vs_5 0
  let v45 := nth vs_5 1
  (erun Tryz.prog (Instr.next v45 true 0) W6).bind fun r46 =>
  (prun Tryz.prog (Instr.extract r46.1 0)).bind fun v47 =>
  (asB v47).bind fun c47 =>
  if c47 then
    ((prun Tryz.prog (Instr.extract r46.1 1)).bind fun v48 =>
    (prun Tryz.prog (Instr.extract r46.1 2)).bind fun v49 =>
    (call 94 #[chars1_2, v49] r46.2).bind fun r52 =>
    (bin .geq r52.1 (Value.int IntKind.i64 0)).bind fun v53 =>
    (asB v53).bind fun c53 =>
    if c53 then
      some (Res.ret [v48] r52.2)
    else
    some (Res.norm [chars1_2, v45] r52.2)).bind fun (r : Res) => (r.unblock 3).cont fun vs_6 W7 =>
    let chars1_3 := nth vs_6 0
    let v45_1 := nth vs_6 1
    some (Res.norm [chars1_3, v45_1] W7)
  else
  some (Res.exit 2 [] r46.2)
noncomputable def f57 (call : CallF) (s0 : Value) (chars1 : Value) (W0 : World) : Option (Value × World) :=
  ((prun Tryz.prog (do eqGuard .eql 9 (Operand.tmp 11) (Operand.const (Value.string { data := #[] })) chars1 (Value.string { data := #[] }); binOp .eql 9 chars1 (Value.string { data := #[] }))).bind fun v12 =>
  (asB v12).bind fun c12 =>
  if c12 then
    some (Res.ret [(Value.int IntKind.i64 (-1))] W0)
  else
  (prun Tryz.prog (Builtin.len_ #[9] 3 #[chars1])).bind fun v14 =>
  (bin .eql v14 (Value.int IntKind.i64 1)).bind fun v15 =>
  (asB v15).bind fun c15 =>
  if c15 then
    (prun Tryz.prog (Instr.index 9 chars1 (Value.int IntKind.i64 0))).bind fun v17 =>
    (prun Tryz.prog (convert 5 21 v17)).bind fun v18 =>
    (bin .geq v18 (Value.int IntKind.i32 128)).bind fun v20 =>
    (asB v20).bind fun c20 =>
    (if c20 then
      some (Res.norm [s0, (Value.int IntKind.i32 65533)] W0)
     else
      some (Res.norm [s0, v18] W0)).bind fun (r : Res) => r.cont fun vs W1 =>
    let s0_1 := nth vs 0
    let r5 := nth vs 1
    (call 94 #[s0_1, r5] W1).bind fun r23 =>
    some (Res.ret [r23.1] r23.2)
  else
  (prun Tryz.prog (Builtin.len_ #[9] 3 #[s0])).bind fun v25 =>
  (call 95 #[v25] W0).bind fun r26 =>
  (asB r26.1).bind fun c26 =>
  (if c26 then
    (call 96 #[chars1] r26.2).bind fun r29 =>
    (prun Tryz.prog (Instr.extract r29.1 0)).bind fun v30 =>
    (prun Tryz.prog (Instr.extract r29.1 1)).bind fun v31 =>
    (erun Tryz.prog (Instr.alloc 175 true (.tuple #[])) r29.2).bind fun r6 =>
    (erun Tryz.prog (Instr.storeAt 175 r6.1 v30) r6.2).bind fun r =>
    (asB v31).bind fun c32 =>
    if c32 then
      (iter (f57.l0 call) [s0, r6.1, (Value.int IntKind.i64 0)] r.2).bind fun (r : Res) => (r.unblock 0).cont fun vs_3 W4 =>
      some (Res.ret [(Value.int IntKind.i64 (-1))] W4)
    else
    some (Res.norm [s0, chars1] r.2)
   else
    some (Res.norm [s0, chars1] r26.2)).bind fun (r : Res) => r.cont fun vs_4 W5 =>
  let s0_4 := nth vs_4 0
  let chars1_1 := nth vs_4 1
  (erun Tryz.prog (Instr.range 9 s0_4) W5).bind fun r45 =>
  (iter (f57.l1 call) [chars1_1, r45.1] r45.2).bind fun (r : Res) => (r.unblock 2).cont fun vs_7 W8 =>
  some (Res.ret [(Value.int IntKind.i64 (-1))] W8)).bind Res.done
theorem f57.eq (call dfr : CallF) (s0 : Value) (chars1 : Value) (W0 : World) : aFun Tryz.prog call dfr Tryz.f57 f57.ann (ofArgs #[s0, chars1]) W0 = f57 call s0 chars1 W0 := by kernel_rfl

/-- (*dailies/cuts.reader).plain -/
def f58.ann : Ann := (.s .z (.s .z (.s (.s .z (.j [4, 6, 7] .z .z)) (.s .z .z))))
noncomputable def f58 (call : CallF) (r0 : Value) (holds1 : Value) (W0 : World) : Option (Value × World) :=
  ((erun Tryz.prog (Instr.alloc 114 true (.tuple #[])) W0).bind fun r4 =>
  (call 62 #[r0, (Value.bool false)] r4.2).bind fun r10 =>
  (prun Tryz.prog (Instr.extract r10.1 0)).bind fun v11 =>
  (prun Tryz.prog (Instr.extract r10.1 1)).bind fun v12 =>
  (erun Tryz.prog (Instr.alloc 114 true (.tuple #[])) r10.2).bind fun r6 =>
  (erun Tryz.prog (Instr.storeAt 114 r6.1 v11) r6.2).bind fun r =>
  (rrun Tryz.prog (do eqGuard .eql 32 (Operand.tmp 13) (Operand.const Value.nilIface) v12 Value.nilIface; binOp .eql 32 v12 Value.nilIface) r.2).bind fun v14 =>
  (asB v14).bind fun b15 =>
  (if b15 = true then (prun Tryz.prog (Instr.fieldAt 114 r6.1 1)).bind fun v17 =>
    (rrun Tryz.prog (Instr.loadAt 9 v17) r.2).bind fun v18 =>
    (callV call holds1 [v18] r.2).bind fun r19 =>
    (prun Tryz.prog (Op.unary .not r19.1)).bind fun v20 =>
    some (v20, r19.2)
   else some ((Value.bool false), r.2)).bind fun r21 =>
  (asB r21.1).bind fun c21 =>
  (if c21 then
    (prun Tryz.prog (Instr.fieldAt 114 r6.1 0)).bind fun v22 =>
    (rrun Tryz.prog (Instr.loadAt 3 v22) r21.2).bind fun v23 =>
    (call 23 #[v23, (Value.int IntKind.i64 193)] r21.2).bind fun r24 =>
    some (Res.norm [r4.1, r6.1, r24.1] r24.2)
   else
    some (Res.norm [r4.1, r6.1, v12] r21.2)).bind fun (r : Res) => r.cont fun vs W1 =>
  let v4 := nth vs 0
  let w6 := nth vs 1
  let err7 := nth vs 2
  (rrun Tryz.prog (Instr.loadAt 114 w6) W1).bind fun v25 =>
  (erun Tryz.prog (Instr.storeAt 114 v4 v25) W1).bind fun r_1 =>
  some (Res.ret [v4, err7] r_1.2)).bind (Res.doneR Tryz.prog [.cell 4 114, .tmp 5])
theorem f58.eq (call dfr : CallF) (r0 : Value) (holds1 : Value) (W0 : World) : aFun Tryz.prog call dfr Tryz.f58 f58.ann (ofArgs #[r0, holds1]) W0 = f58 call r0 holds1 W0 := by kernel_rfl

/-- (*dailies/cuts.reader).list$1 -/
def f59.ann : Ann := (.s .z (.s .z .z))
noncomputable def f59 (call : CallF) (s0 : Value) (W0 : World) : Option (Value × World) :=
  ((prun Tryz.prog (do eqGuard .eql 9 (Operand.tmp 3) (Operand.const (Value.string { data := #[108, 105, 115, 116] })) s0 (Value.string { data := #[108, 105, 115, 116] }); binOp .eql 9 s0 (Value.string { data := #[108, 105, 115, 116] }))).bind fun v4 =>
  some (Res.ret [v4] W0)).bind Res.done
theorem f59.eq (call dfr : CallF) (s0 : Value) (W0 : World) : aFun Tryz.prog call dfr Tryz.f59 f59.ann (ofArgs #[s0]) W0 = f59 call s0 W0 := by kernel_rfl

/-- (*dailies/cuts.reader).list$2 -/
def f60.ann : Ann := (.s .z (.s .z .z))
noncomputable def f60 (call : CallF) (s0 : Value) (W0 : World) : Option (Value × World) :=
  ((call 61 #[s0] W0).bind fun r4 =>
  (bin .neq r4.1 (Value.int IntKind.i64 0)).bind fun v5 =>
  some (Res.ret [v5] r4.2)).bind Res.done
theorem f60.eq (call dfr : CallF) (s0 : Value) (W0 : World) : aFun Tryz.prog call dfr Tryz.f60 f60.ann (ofArgs #[s0]) W0 = f60 call s0 W0 := by kernel_rfl

/-- dailies/cuts.rateOf -/
def f61.ann : Ann := (.s .z (.s (.s .z (.b [] (.l [0, 3] (.s (.s .z (.c .z .z)) (.s (.b [0, 3] (.s .z (.c (.s .z .z) .z))) .z))))) (.s .z .z)))
noncomputable def f61.l0 (call : CallF) (vs : List Value) (W1 : World) : Option Res :=
  let s0_1 := nth vs 0
  let r3 := nth vs 1
  (bin .leq r3 (Value.int IntKind.i64 7)).bind fun v5 =>
  (asB v5).bind fun c5 =>
  if c5 then
    ((call 49 #[r3] W1).bind fun r9 =>
    (prun Tryz.prog (do eqGuard .eql 9 (Operand.tmp 9) (Operand.tmp 10) r9.1 s0_1; binOp .eql 9 r9.1 s0_1)).bind fun v11 =>
    (asB v11).bind fun c11 =>
    if c11 then
      some (Res.ret [r3] r9.2)
    else
    some (Res.norm [s0_1, r3] r9.2)).bind fun (r : Res) => (r.unblock 1).cont fun vs_1 W2 =>
    let s0_2 := nth vs_1 0
    let r3_1 := nth vs_1 1
    (bin .add r3_1 (Value.int IntKind.i64 1)).bind fun v7 =>
    some (Res.norm [s0_2, v7] W2)
  else
  some (Res.exit 0 [] W1)
noncomputable def f61 (call : CallF) (s0 : Value) (W0 : World) : Option (Value × World) :=
  ((iter (f61.l0 call) [s0, (Value.int IntKind.i64 1)] W0).bind fun (r : Res) => (r.unblock 0).cont fun vs_2 W3 =>
  some (Res.ret [(Value.int IntKind.i64 0)] W3)).bind Res.done
theorem f61.eq (call dfr : CallF) (s0 : Value) (W0 : World) : aFun Tryz.prog call dfr Tryz.f61 f61.ann (ofArgs #[s0]) W0 = f61 call s0 W0 := by kernel_rfl

/-- (*dailies/cuts.reader).next -/
def f62.ann : Ann := (.s .z (.s (.s .z (.c (.s .z .z) .z)) (.s .z (.s (.s .z (.c (.s .z .z) .z)) (.s .z (.s (.s .z (.c (.s .z .z) .z)) (.s .z .z)))))))
noncomputable def f62 (call : CallF) (r0 : Value) (text1 : Value) (W0 : World) : Option (Value × World) :=
  ((erun Tryz.prog (Instr.alloc 114 true (.tuple #[])) W0).bind fun r4 =>
  (nilV Tryz.prog r0).bind fun v8 =>
  (prun Tryz.prog (Instr.fieldAt 64 v8 0)).bind fun v9 =>
  (rrun Tryz.prog (Instr.loadAt 62 v9) r4.2).bind fun v10 =>
  (prun Tryz.prog (Builtin.len_ #[62] 3 #[v10])).bind fun v11 =>
  (bin .eql v11 (Value.int IntKind.i64 0)).bind fun v12 =>
  (asB v12).bind fun c12 =>
  if c12 then
    (prun Tryz.prog (Instr.build 114 #[])).bind fun v13 =>
    (nilV Tryz.prog r0).bind fun v15 =>
    (prun Tryz.prog (Instr.fieldAt 64 v15 1)).bind fun v16 =>
    (rrun Tryz.prog (Instr.loadAt 3 v16) r4.2).bind fun v17 =>
    (call 23 #[v17, (Value.int IntKind.i64 193)] r4.2).bind fun r18 =>
    (erun Tryz.prog (Instr.storeAt 114 r4.1 v13) r18.2).bind fun r =>
    some (Res.ret [r4.1, r18.1] r.2)
  else
  (nilV Tryz.prog r0).bind fun v20 =>
  (prun Tryz.prog (Instr.fieldAt 64 v20 0)).bind fun v21 =>
  (rrun Tryz.prog (Instr.loadAt 62 v21) r4.2).bind fun v22 =>
  (prun Tryz.prog (Instr.indexAt 62 v22 (Value.int IntKind.i64 0))).bind fun v23 =>
  (rrun Tryz.prog (Instr.loadAt 114 v23) r4.2).bind fun v24 =>
  (erun Tryz.prog (Instr.alloc 114 true (.tuple #[])) r4.2).bind fun r6 =>
  (erun Tryz.prog (Instr.storeAt 114 r6.1 v24) r6.2).bind fun r_1 =>
  (prun Tryz.prog (Instr.fieldAt 114 r6.1 3)).bind fun v25 =>
  (rrun Tryz.prog (Instr.loadAt 4 v25) r_1.2).bind fun v26 =>
  (asB v26).bind fun b27 =>
  (if b27 = false then (prun Tryz.prog (Instr.fieldAt 114 r6.1 2)).bind fun v28 =>
    (rrun Tryz.prog (Instr.loadAt 4 v28) r_1.2).bind fun v29 =>
    (prun Tryz.prog (do eqGuard .neq 4 (Operand.tmp 29) (Operand.tmp 30) v29 text1; binOp .neq 4 v29 text1)).bind fun v31 =>
    some (v31, r_1.2)
   else some ((Value.bool true), r_1.2)).bind fun r32 =>
  (asB r32.1).bind fun c32 =>
  if c32 then
    (prun Tryz.prog (Instr.build 114 #[])).bind fun v33 =>
    (prun Tryz.prog (Instr.fieldAt 114 r6.1 0)).bind fun v34 =>
    (rrun Tryz.prog (Instr.loadAt 3 v34) r32.2).bind fun v35 =>
    (call 23 #[v35, (Value.int IntKind.i64 193)] r32.2).bind fun r36 =>
    (erun Tryz.prog (Instr.storeAt 114 r4.1 v33) r36.2).bind fun r_2 =>
    some (Res.ret [r4.1, r36.1] r_2.2)
  else
  (nilV Tryz.prog r0).bind fun v39 =>
  (prun Tryz.prog (Instr.fieldAt 64 v39 0)).bind fun v40 =>
  (rrun Tryz.prog (Instr.loadAt 62 v40) r32.2).bind fun v41 =>
  (prun Tryz.prog (Instr.sliceAt 62 v41 (some (Value.int IntKind.i64 1)) none none)).bind fun v42 =>
  (nilV Tryz.prog r0).bind fun v43 =>
  (prun Tryz.prog (Instr.fieldAt 64 v43 0)).bind fun v44 =>
  (erun Tryz.prog (Instr.storeAt 62 v44 v42) r32.2).bind fun r_3 =>
  (asB text1).bind fun b46 =>
  (if b46 = true then (prun Tryz.prog (Instr.fieldAt 114 r6.1 1)).bind fun v47 =>
    (rrun Tryz.prog (Instr.loadAt 9 v47) r_3.2).bind fun v48 =>
    (prun Tryz.prog (Builtin.len_ #[9] 3 #[v48])).bind fun v49 =>
    (bin .gtr v49 (Value.int IntKind.i64 100)).bind fun v50 =>
    some (v50, r_3.2)
   else some ((Value.bool false), r_3.2)).bind fun r51 =>
  (asB r51.1).bind fun c51 =>
  if c51 then
    (prun Tryz.prog (Instr.build 114 #[])).bind fun v52 =>
    (prun Tryz.prog (Instr.fieldAt 114 r6.1 0)).bind fun v53 =>
    (rrun Tryz.prog (Instr.loadAt 3 v53) r51.2).bind fun v54 =>
    (call 23 #[v54, (Value.int IntKind.i64 191)] r51.2).bind fun r55 =>
    (erun Tryz.prog (Instr.storeAt 114 r4.1 v52) r55.2).bind fun r_4 =>
    some (Res.ret [r4.1, r55.1] r_4.2)
  else
  (rrun Tryz.prog (Instr.loadAt 114 r6.1) r51.2).bind fun v56 =>
  (erun Tryz.prog (Instr.storeAt 114 r4.1 v56) r51.2).bind fun r_5 =>
  some (Res.ret [r4.1, Value.nilIface] r_5.2)).bind (Res.doneR Tryz.prog [.cell 4 114, .tmp 5])
theorem f62.eq (call dfr : CallF) (r0 : Value) (text1 : Value) (W0 : World) : aFun Tryz.prog call dfr Tryz.f62 f62.ann (ofArgs #[r0, text1]) W0 = f62 call r0 text1 W0 := by kernel_rfl

/-- (*dailies/cuts.reader).done -/
def f63.ann : Ann := (.s .z (.s (.s .z (.c (.s .z .z) .z)) (.s .z .z)))
noncomputable def f63 (call : CallF) (r0 : Value) (W0 : World) : Option (Value × World) :=
  ((nilV Tryz.prog r0).bind fun v4 =>
  (prun Tryz.prog (Instr.fieldAt 64 v4 0)).bind fun v5 =>
  (rrun Tryz.prog (Instr.loadAt 62 v5) W0).bind fun v6 =>
  (prun Tryz.prog (Builtin.len_ #[62] 3 #[v6])).bind fun v7 =>
  (bin .gtr v7 (Value.int IntKind.i64 0)).bind fun v8 =>
  (asB v8).bind fun c8 =>
  if c8 then
    (nilV Tryz.prog r0).bind fun v10 =>
    (prun Tryz.prog (Instr.fieldAt 64 v10 0)).bind fun v11 =>
    (rrun Tryz.prog (Instr.loadAt 62 v11) W0).bind fun v12 =>
    (prun Tryz.prog (Instr.indexAt 62 v12 (Value.int IntKind.i64 0))).bind fun v13 =>
    (prun Tryz.prog (Instr.fieldAt 114 v13 0)).bind fun v14 =>
    (rrun Tryz.prog (Instr.loadAt 3 v14) W0).bind fun v15 =>
    (call 23 #[v15, (Value.int IntKind.i64 193)] W0).bind fun r16 =>
    some (Res.ret [r16.1] r16.2)
  else
  some (Res.ret [Value.nilIface] W0)).bind Res.done
theorem f63.eq (call dfr : CallF) (r0 : Value) (W0 : World) : aFun Tryz.prog call dfr Tryz.f63 f63.ann (ofArgs #[r0]) W0 = f63 call r0 W0 := by kernel_rfl

/-- (*dailies/cuts.reader).event$1 -/
def f64.ann : Ann := (.s .z (.s .z .z))
noncomputable def f64 (call : CallF) (s0 : Value) (W0 : World) : Option (Value × World) :=
  ((prun Tryz.prog (do eqGuard .eql 9 (Operand.tmp 3) (Operand.const (Value.string { data := #[99, 117, 116] })) s0 (Value.string { data := #[99, 117, 116] }); binOp .eql 9 s0 (Value.string { data := #[99, 117, 116] }))).bind fun v4 =>
  (asB v4).bind fun b5 =>
  (if b5 = false then (prun Tryz.prog (do eqGuard .eql 9 (Operand.tmp 6) (Operand.const (Value.string { data := #[102, 97, 100, 101] })) s0 (Value.string { data := #[102, 97, 100, 101] }); binOp .eql 9 s0 (Value.string { data := #[102, 97, 100, 101] }))).bind fun v7 =>
    some (v7, W0)
   else some ((Value.bool true), W0)).bind fun r8 =>
  some (Res.ret [r8.1] r8.2)).bind Res.done
theorem f64.eq (call dfr : CallF) (s0 : Value) (W0 : World) : aFun Tryz.prog call dfr Tryz.f64 f64.ann (ofArgs #[s0]) W0 = f64 call s0 W0 := by kernel_rfl

/-- dailies/cuts.isFade -/
def f65.ann : Ann := (.s .z (.s .z (.s .z .z)))
noncomputable def f65 (call : CallF) (s0 : Value) (W0 : World) : Option (Value × World) :=
  ((call 66 #[s0] W0).bind fun r7 =>
  (prun Tryz.prog (Instr.extract r7.1 0)).bind fun v8 =>
  (prun Tryz.prog (Instr.extract r7.1 1)).bind fun v9 =>
  (rrun Tryz.prog (do eqGuard .eql 32 (Operand.tmp 10) (Operand.const Value.nilIface) v9 Value.nilIface; binOp .eql 32 v9 Value.nilIface) r7.2).bind fun v11 =>
  (asB v11).bind fun b12 =>
  (if b12 = true then (bin .geq v8 (Value.int IntKind.i64 1)).bind fun v14 =>
    some (v14, r7.2)
   else some ((Value.bool false), r7.2)).bind fun r15 =>
  (asB r15.1).bind fun b16 =>
  (if b16 = true then (bin .leq v8 (Value.int IntKind.i64 100)).bind fun v18 =>
    some (v18, r15.2)
   else some ((Value.bool false), r15.2)).bind fun r19 =>
  (asB r19.1).bind fun b20 =>
  (if b20 = true then (call 91 #[v8] r19.2).bind fun r22 =>
    (prun Tryz.prog (do eqGuard .eql 9 (Operand.tmp 22) (Operand.tmp 23) r22.1 s0; binOp .eql 9 r22.1 s0)).bind fun v24 =>
    some (v24, r22.2)
   else some ((Value.bool false), r19.2)).bind fun r25 =>
  some (Res.ret [r25.1] r25.2)).bind Res.done
theorem f65.eq (call dfr : CallF) (s0 : Value) (W0 : World) : aFun Tryz.prog call dfr Tryz.f65 f65.ann (ofArgs #[s0]) W0 = f65 call s0 W0 := by kernel_rfl

/-- strconv.Atoi -/
def f66.ann : Ann := (.s .z (.s .z (.s (.s .z (.c (.s .z .z) .z)) (.s .z .z))))
noncomputable def f66 (call : CallF) (s0 : Value) (W0 : World) : Option (Value × World) :=
  ((call 98 #[s0] W0).bind fun r8 =>
  (prun Tryz.prog (Instr.extract r8.1 0)).bind fun v9 =>
  (prun Tryz.prog (Instr.extract r8.1 1)).bind fun v10 =>
  (rrun Tryz.prog (do eqGuard .neq 32 (Operand.tmp 11) (Operand.const Value.nilIface) v10 Value.nilIface; binOp .neq 32 v10 Value.nilIface) r8.2).bind fun v12 =>
  (asB v12).bind fun c12 =>
  if c12 then
    (call 99 #[(Value.string { data := #[65, 116, 111, 105] }), s0, (Value.int IntKind.i64 0), (Value.int IntKind.i64 0), v10] r8.2).bind fun r16 =>
    some (Res.ret [v9, r16.1] r16.2)
  else
  some (Res.ret [v9, Value.nilIface] r8.2)).bind Res.done
theorem f66.eq (call dfr : CallF) (s0 : Value) (W0 : World) : aFun Tryz.prog call dfr Tryz.f66 f66.ann (ofArgs #[s0]) W0 = f66 call s0 W0 := by kernel_rfl

/-- dailies/cuts.isName -/
def f67.ann : Ann := (.s .z (.s (.s .z (.b [0] (.l [0, 6, 7] (.s .z (.s (.c .z .z) (.s (.b [0, 6, 7] (.s .z (.s .z (.s .z (.c (.s .z .z) .z))))) .z)))))) (.s .z .z)))
noncomputable def f67.l0 (call : CallF) (vs : List Value) (W1 : World) : Option Res :=
  let s0_1 := nth vs 0
  let v6_1 := nth vs 1
  let v7 := nth vs 2
  (bin .lss v7 v6_1).bind fun v8 =>
  (asB v8).bind fun c8 =>
  if c8 then
    ((prun Tryz.prog (Instr.index 9 s0_1 v7)).bind fun v12 =>
    (bin .lss v12 (Value.int IntKind.u8 97)).bind fun v14 =>
    (asB v14).bind fun b15 =>
    (if b15 = false then (bin .gtr v12 (Value.int IntKind.u8 122)).bind fun v17 =>
      some (v17, W1)
     else some ((Value.bool true), W1)).bind fun r18 =>
    (asB r18.1).bind fun b19 =>
    (if b19 = true then (bin .lss v12 (Value.int IntKind.u8 48)).bind fun v21 =>
      (asB v21).bind fun b22 =>
      (if b22 = false then (bin .gtr v12 (Value.int IntKind.u8 57)).bind fun v24 =>
        some (v24, r18.2)
       else some ((Value.bool true), r18.2)).bind fun r25 =>
      some (r25.1, r25.2)
     else some ((Value.bool false), r18.2)).bind fun r26 =>
    (asB r26.1).bind fun b27 =>
    (if b27 = true then (bin .neq v12 (Value.int IntKind.u8 95)).bind fun v29 =>
      some (v29, r26.2)
     else some ((Value.bool false), r26.2)).bind fun r30 =>
    (asB r30.1).bind fun b31 =>
    (if b31 = true then (bin .neq v12 (Value.int IntKind.u8 45)).bind fun v33 =>
      some (v33, r30.2)
     else some ((Value.bool false), r30.2)).bind fun r34 =>
    (asB r34.1).bind fun c34 =>
    if c34 then
      some (Res.ret [(Value.bool false)] r34.2)
    else
    some (Res.norm [s0_1, v6_1, v7] r34.2)).bind fun (r : Res) => (r.unblock 1).cont fun vs_1 W2 =>
    let s0_2 := nth vs_1 0
    let v6_2 := nth vs_1 1
    let v7_1 := nth vs_1 2
    (bin .add v7_1 (Value.int IntKind.i64 1)).bind fun v35 =>
    some (Res.norm [s0_2, v6_2, v35] W2)
  else
  some (Res.exit 0 [s0_1] W1)
noncomputable def f67 (call : CallF) (s0 : Value) (W0 : World) : Option (Value × World) :=
  ((prun Tryz.prog (Builtin.len_ #[9] 3 #[s0])).bind fun v6 =>
  (iter (f67.l0 call) [s0, v6, (Value.int IntKind.i64 0)] W0).bind fun (r : Res) => (r.unblock 0).cont fun vs_2 W3 =>
  let s0_3 := nth vs_2 0
  (prun Tryz.prog (Builtin.len_ #[9] 3 #[s0_3])).bind fun v37 =>
  (bin .geq v37 (Value.int IntKind.i64 1)).bind fun v38 =>
  (asB v38).bind fun b39 =>
  (if b39 = true then (prun Tryz.prog (Builtin.len_ #[9] 3 #[s0_3])).bind fun v41 =>
    (bin .leq v41 (Value.int IntKind.i64 16)).bind fun v42 =>
    some (v42, W3)
   else some ((Value.bool false), W3)).bind fun r43 =>
  some (Res.ret [r43.1] r43.2)).bind Res.done
theorem f67.eq (call dfr : CallF) (s0 : Value) (W0 : World) : aFun Tryz.prog call dfr Tryz.f67 f67.ann (ofArgs #[s0]) W0 = f67 call s0 W0 := by kernel_rfl

/-- (*dailies/cuts.reader).time -/
def f68.ann : Ann := (.s .z (.s .z (.s (.s .z (.c (.s .z .z) .z)) (.s .z (.s .z (.s (.s .z (.c (.s .z .z) .z)) (.s .z .z)))))))
noncomputable def f68 (call : CallF) (r0 : Value) (rate1 : Value) (W0 : World) : Option (Value × World) :=
  ((erun Tryz.prog (Instr.alloc 114 true (.tuple #[])) W0).bind fun r5 =>
  (call 62 #[r0, (Value.bool false)] r5.2).bind fun r13 =>
  (prun Tryz.prog (Instr.extract r13.1 0)).bind fun v14 =>
  (prun Tryz.prog (Instr.extract r13.1 1)).bind fun v15 =>
  (erun Tryz.prog (Instr.alloc 114 true (.tuple #[])) r13.2).bind fun r7 =>
  (erun Tryz.prog (Instr.storeAt 114 r7.1 v14) r7.2).bind fun r =>
  (rrun Tryz.prog (do eqGuard .neq 32 (Operand.tmp 16) (Operand.const Value.nilIface) v15 Value.nilIface; binOp .neq 32 v15 Value.nilIface) r.2).bind fun v17 =>
  (asB v17).bind fun c17 =>
  if c17 then
    ((rrun Tryz.prog (Instr.loadAt 114 r7.1) r.2.drew).bind fun v18 =>
    some (v18, r.2.drew)).bind fun r18 =>
    ((erun Tryz.prog (Instr.storeAt 114 r5.1 r18.1) r18.2).bind fun r_2 =>
    some (undef, r_2.2)).bind fun r_1 =>
    chkThen (True)
    (some (Res.ret [(Value.int IntKind.i64 0), r5.1, v15] r_1.2))
  else
  (prun Tryz.prog (Instr.fieldAt 114 r7.1 1)).bind fun v22 =>
  (rrun Tryz.prog (Instr.loadAt 9 v22) r.2).bind fun v23 =>
  (call 100 #[rate1, v23] r.2).bind fun r24 =>
  (prun Tryz.prog (Instr.extract r24.1 0)).bind fun v25 =>
  (prun Tryz.prog (Instr.extract r24.1 1)).bind fun v26 =>
  (erun Tryz.prog (Instr.alloc 82 true (.tuple #[])) r24.2).bind fun r10 =>
  (prun Tryz.prog (Instr.makeInterface 85 r10.1)).bind fun v28 =>
  (call 34 #[v26, v28] r10.2).bind fun r29 =>
  (asB r29.1).bind fun c29 =>
  if c29 then
    ((rrun Tryz.prog (Instr.loadAt 114 r7.1) r29.2.drew).bind fun v30 =>
    some (v30, r29.2.drew)).bind fun r30 =>
    ((prun Tryz.prog (Instr.fieldAt 114 r7.1 0)).bind fun v31 =>
    some (v31, r30.2)).bind fun r31 =>
    ((rrun Tryz.prog (Instr.loadAt 3 r31.1) r31.2).bind fun v32 =>
    some (v32, r31.2)).bind fun r32 =>
    ((call 23 #[r32.1, (Value.int IntKind.i64 194)] r32.2).bind fun r33_1 =>
    some (r33_1.1, r33_1.2)).bind fun r33 =>
    ((erun Tryz.prog (Instr.storeAt 114 r5.1 r30.1) r33.2).bind fun r_4 =>
    some (undef, r_4.2)).bind fun r_3 =>
    chkThen ((((rrun Tryz.prog (Instr.loadAt 114 r7.1) r32.2).bind fun v30_1 => some v30_1) = some r30.1 ∧ ((rrun Tryz.prog (Instr.loadAt 114 r7.1) r33.2).bind fun v30_2 => some v30_2) = some r30.1) ∧ True)
    (some (Res.ret [(Value.int IntKind.i64 0), r5.1, r33.1] r_3.2))
  else
  (rrun Tryz.prog (Instr.loadAt 114 r7.1) r29.2.drew).bind fun v35 =>
  (erun Tryz.prog (Instr.storeAt 114 r5.1 v35) r29.2.drew).bind fun r_5 =>
  some (Res.ret [v25, r5.1, Value.nilIface] r_5.2)).bind (Res.doneR Tryz.prog [.tmp 4, .cell 5 114, .tmp 6])
theorem f68.eq (call dfr : CallF) (r0 : Value) (rate1 : Value) (W0 : World) : aFun Tryz.prog call dfr Tryz.f68 f68.ann (ofArgs #[r0, rate1]) W0 = f68 call r0 rate1 W0 := by kernel_rfl

/-- dailies/dailiesref19.long -/
def f69.ann : Ann := (.s .z (.s .z (.s .z (.s .z (.s .z (.s (.b [0, 1, 5, 6, 7, 8] (.s .z (.c (.s .z .z) (.s .z (.c .z (.s .z (.c .z (.s .z (.c .z (.s .z .z)))))))))) (.s (.s .z (.b [0, 1, 6, 7, 8] (.s .z (.c .z (.s .z (.c .z (.s .z (.c .z (.s .z (.c .z .z)))))))))) (.s (.s .z (.c (.s .z .z) .z)) (.s (.s .z (.b [6] (.l [0, 1, 6, 9] (.s (.s .z (.c .z .z)) (.s (.b [0, 1, 6, 9] (.s .z (.c (.s .z .z) .z))) .z))))) (.s .z .z))))))))))
noncomputable def f69.l0 (call : CallF) (vs_2 : List Value) (W3 : World) : Option Res :=
  let s0_3 := nth vs_2 0
  let at1_3 := nth vs_2 1
  let n6_2 := nth vs_2 2
  let i9 := nth vs_2 3
  (bin .add at1_3 n6_2).bind fun v76 =>
  (bin .lss i9 v76).bind fun v77 =>
  (asB v77).bind fun c77 =>
  if c77 then
    ((prun Tryz.prog (Instr.index 9 s0_3 i9)).bind fun v82 =>
    (bin .lss v82 (Value.int IntKind.u8 128)).bind fun v83 =>
    (asB v83).bind fun b84 =>
    (if b84 = false then (prun Tryz.prog (Instr.index 9 s0_3 i9)).bind fun v87 =>
      (bin .gtr v87 (Value.int IntKind.u8 191)).bind fun v88 =>
      some (v88, W3)
     else some ((Value.bool true), W3)).bind fun r89 =>
    (asB r89.1).bind fun c89 =>
    if c89 then
      some (Res.ret [(Value.int IntKind.i64 0)] r89.2)
    else
    some (Res.norm [s0_3, at1_3, n6_2, i9] r89.2)).bind fun (r : Res) => (r.unblock 3).cont fun vs_3 W4 =>
    let s0_4 := nth vs_3 0
    let at1_4 := nth vs_3 1
    let n6_3 := nth vs_3 2
    let i9_1 := nth vs_3 3
    (bin .add i9_1 (Value.int IntKind.i64 1)).bind fun v79 =>
    some (Res.norm [s0_4, at1_4, n6_3, v79] W4)
  else
  some (Res.exit 2 [n6_2] W3)
noncomputable def f69 (call : CallF) (s0 : Value) (at1 : Value) (W0 : World) : Option (Value × World) :=
  ((prun Tryz.prog (Instr.index 9 s0 at1)).bind fun v12 =>
  (prun Tryz.prog (convert 5 3 v12)).bind fun v13 =>
  ((bin .lss v13 (Value.int IntKind.i64 128)).bind fun v16 =>
  (asB v16).bind fun c14 =>
  if c14 then
    some (Res.ret [(Value.int IntKind.i64 1)] W0)
  else
  (bin .geq v13 (Value.int IntKind.i64 194)).bind fun v19 =>
  (asB v19).bind fun b20 =>
  (if b20 = true then (bin .leq v13 (Value.int IntKind.i64 223)).bind fun v22 =>
    some (v22, W0)
   else some ((Value.bool false), W0)).bind fun r23 =>
  (asB r23.1).bind fun c17 =>
  if c17 then
    some (Res.norm [s0, at1, v13, (Value.int IntKind.i64 2), (Value.int IntKind.i64 128), (Value.int IntKind.i64 191)] r23.2)
  else
  (bin .geq v13 (Value.int IntKind.i64 224)).bind fun v26 =>
  (asB v26).bind fun b27 =>
  (if b27 = true then (bin .leq v13 (Value.int IntKind.i64 239)).bind fun v29 =>
    some (v29, r23.2)
   else some ((Value.bool false), r23.2)).bind fun r30 =>
  (asB r30.1).bind fun c24 =>
  if c24 then
    some (Res.norm [s0, at1, v13, (Value.int IntKind.i64 3), (Value.int IntKind.i64 128), (Value.int IntKind.i64 191)] r30.2)
  else
  (bin .geq v13 (Value.int IntKind.i64 240)).bind fun v33 =>
  (asB v33).bind fun b34 =>
  (if b34 = true then (bin .leq v13 (Value.int IntKind.i64 244)).bind fun v36 =>
    some (v36, r30.2)
   else some ((Value.bool false), r30.2)).bind fun r37 =>
  (asB r37.1).bind fun c31 =>
  if c31 then
    some (Res.norm [s0, at1, v13, (Value.int IntKind.i64 4), (Value.int IntKind.i64 128), (Value.int IntKind.i64 191)] r37.2)
  else
  some (Res.ret [(Value.int IntKind.i64 0)] r37.2)).bind fun (r : Res) => (r.unblock 0).cont fun vs W1 =>
  let s0_1 := nth vs 0
  let at1_1 := nth vs 1
  let c5 := nth vs 2
  let n6 := nth vs 3
  let low7 := nth vs 4
  let high8 := nth vs 5
  ((bin .eql c5 (Value.int IntKind.i64 224)).bind fun v40 =>
  (asB v40).bind fun c39 =>
  if c39 then
    some (Res.norm [s0_1, at1_1, n6, (Value.int IntKind.i64 160), high8] W1)
  else
  (bin .eql c5 (Value.int IntKind.i64 237)).bind fun v42 =>
  (asB v42).bind fun c41 =>
  if c41 then
    some (Res.norm [s0_1, at1_1, n6, low7, (Value.int IntKind.i64 159)] W1)
  else
  (bin .eql c5 (Value.int IntKind.i64 240)).bind fun v44 =>
  (asB v44).bind fun c43 =>
  if c43 then
    some (Res.norm [s0_1, at1_1, n6, (Value.int IntKind.i64 144), high8] W1)
  else
  (bin .eql c5 (Value.int IntKind.i64 244)).bind fun v46 =>
  (asB v46).bind fun c45 =>
  if c45 then
    some (Res.norm [s0_1, at1_1, n6, low7, (Value.int IntKind.i64 143)] W1)
  else
  some (Res.norm [s0_1, at1_1, n6, low7, high8] W1)).bind fun (r : Res) => (r.unblock 1).cont fun vs_1 W2 =>
  let s0_2 := nth vs_1 0
  let at1_2 := nth vs_1 1
  let n6_1 := nth vs_1 2
  let low7_1 := nth vs_1 3
  let high8_1 := nth vs_1 4
  (bin .add at1_2 n6_1).bind fun v49 =>
  (prun Tryz.prog (Builtin.len_ #[9] 3 #[s0_2])).bind fun v51 =>
  (bin .gtr v49 v51).bind fun v52 =>
  (asB v52).bind fun b53 =>
  (if b53 = false then (bin .add at1_2 (Value.int IntKind.i64 1)).bind fun v56 =>
    (prun Tryz.prog (Instr.index 9 s0_2 v56)).bind fun v57 =>
    (prun Tryz.prog (convert 5 3 v57)).bind fun v58 =>
    (bin .lss v58 low7_1).bind fun v60 =>
    some (v60, W2)
   else some ((Value.bool true), W2)).bind fun r61 =>
  (asB r61.1).bind fun b62 =>
  (if b62 = false then (bin .add at1_2 (Value.int IntKind.i64 1)).bind fun v65 =>
    (prun Tryz.prog (Instr.index 9 s0_2 v65)).bind fun v66 =>
    (prun Tryz.prog (convert 5 3 v66)).bind fun v67 =>
    (bin .gtr v67 high8_1).bind fun v69 =>
    some (v69, r61.2)
   else some ((Value.bool true), r61.2)).bind fun r70 =>
  (asB r70.1).bind fun c70 =>
  if c70 then
    some (Res.ret [(Value.int IntKind.i64 0)] r70.2)
  else
  (bin .add at1_2 (Value.int IntKind.i64 2)).bind fun v72 =>
  (iter (f69.l0 call) [s0_2, at1_2, n6_1, v72] r70.2).bind fun (r : Res) => (r.unblock 2).cont fun vs_4 W5 =>
  let n6_4 := nth vs_4 0
  some (Res.ret [n6_4] W5)).bind Res.done
theorem f69.eq (call dfr : CallF) (s0 : Value) (at1 : Value) (W0 : World) : aFun Tryz.prog call dfr Tryz.f69 f69.ann (ofArgs #[s0, at1]) W0 = f69 call s0 at1 W0 := by kernel_rfl

/-- dailies/dailiesref19.text -/
def f70.ann : Ann := (.s .z (.s .z (.s .z (.s (.b [4, 6, 7] (.l [0, 4, 6, 7] (.s (.s .z (.c .z .z)) (.b [0, 4, 6, 7] (.s (.s .z (.c (.s .z (.s .z .z)) .z)) (.s (.s .z (.c (.s .z (.s .z .z)) .z)) (.s (.s .z (.c (.s .z .z) .z)) (.s (.s .z (.j [0, 4, 6, 7] .z .z)) .z)))))))) (.s .z .z)))))
noncomputable def f70.l0 (call : CallF) (vs : List Value) (W1 : World) : Option Res :=
  let s0_1 := nth vs 0
  let v4 := nth vs 1
  let w6 := nth vs 2
  let i7 := nth vs 3
  (prun Tryz.prog (Builtin.len_ #[9] 3 #[s0_1])).bind fun v14 =>
  (bin .lss i7 v14).bind fun v15 =>
  (asB v15).bind fun b16 =>
  (if b16 = true then (prun Tryz.prog (Instr.index 9 s0_1 i7)).bind fun v19 =>
    (bin .neq v19 (Value.int IntKind.u8 10)).bind fun v20 =>
    some (v20, W1)
   else some ((Value.bool false), W1)).bind fun r21 =>
  (asB r21.1).bind fun c21 =>
  if c21 then
    ((prun Tryz.prog (Instr.index 9 s0_1 i7)).bind fun v24 =>
    (bin .eql v24 (Value.int IntKind.u8 34)).bind fun v25 =>
    (asB v25).bind fun c25 =>
    if c25 then
      (prun Tryz.prog (Instr.fieldAt 74 w6 3)).bind fun v26 =>
      (erun Tryz.prog (Instr.storeAt 4 v26 (Value.bool true)) r21.2).bind fun r_1 =>
      (rrun Tryz.prog (Instr.loadAt 74 w6) r_1.2).bind fun v27 =>
      (bin .add i7 (Value.int IntKind.i64 1)).bind fun v29 =>
      (erun Tryz.prog (Instr.storeAt 74 v4 v27) r_1.2).bind fun r_2 =>
      some (Res.ret [v4, v29] r_2.2)
    else
    (prun Tryz.prog (Instr.index 9 s0_1 i7)).bind fun v32 =>
    (bin .neq v32 (Value.int IntKind.u8 92)).bind fun v33 =>
    (asB v33).bind fun c33 =>
    if c33 then
      (prun Tryz.prog (Instr.fieldAt 74 w6 2)).bind fun v34 =>
      (rrun Tryz.prog (Instr.loadAt 9 v34) r21.2.drew).bind fun v35 =>
      (bin .add i7 (Value.int IntKind.i64 1)).bind fun v39 =>
      (prun Tryz.prog (Instr.sliceAt 9 s0_1 (some i7) (some v39) none)).bind fun v40 =>
      (prun Tryz.prog (do eqGuard .add 9 (Operand.tmp 35) (Operand.tmp 40) v35 v40; binOp .add 9 v35 v40)).bind fun v41 =>
      (prun Tryz.prog (Instr.fieldAt 74 w6 2)).bind fun v42 =>
      (erun Tryz.prog (Instr.storeAt 9 v42 v41) r21.2.drew).bind fun r_3 =>
      (bin .add i7 (Value.int IntKind.i64 1)).bind fun v44 =>
      some (Res.exit 1 [s0_1, v4, w6, v44] r_3.2)
    else
    (bin .add i7 (Value.int IntKind.i64 1)).bind fun v46 =>
    (prun Tryz.prog (Builtin.len_ #[9] 3 #[s0_1])).bind fun v48 =>
    (bin .geq v46 v48).bind fun v49 =>
    (asB v49).bind fun b50 =>
    (if b50 = false then (bin .add i7 (Value.int IntKind.i64 1)).bind fun v53 =>
      (prun Tryz.prog (Instr.index 9 s0_1 v53)).bind fun v54 =>
      (bin .neq v54 (Value.int IntKind.u8 34)).bind fun v55 =>
      (asB v55).bind fun b56 =>
      (if b56 = true then (bin .add i7 (Value.int IntKind.i64 1)).bind fun v59 =>
        (prun Tryz.prog (Instr.index 9 s0_1 v59)).bind fun v60 =>
        (bin .neq v60 (Value.int IntKind.u8 92)).bind fun v61 =>
        some (v61, r21.2)
       else some ((Value.bool false), r21.2)).bind fun r62 =>
      (asB r62.1).bind fun b63 =>
      (if b63 = true then (bin .add i7 (Value.int IntKind.i64 1)).bind fun v66 =>
        (prun Tryz.prog (Instr.index 9 s0_1 v66)).bind fun v67 =>
        (bin .neq v67 (Value.int IntKind.u8 110)).bind fun v68 =>
        some (v68, r62.2)
       else some ((Value.bool false), r62.2)).bind fun r69 =>
      some (r69.1, r69.2)
     else some ((Value.bool true), r21.2)).bind fun r70 =>
    (asB r70.1).bind fun c70 =>
    if c70 then
      (rrun Tryz.prog (Instr.loadAt 74 w6) r70.2).bind fun v71 =>
      (erun Tryz.prog (Instr.storeAt 74 v4 v71) r70.2).bind fun r_4 =>
      some (Res.ret [v4, i7] r_4.2)
    else
    (bin .add i7 (Value.int IntKind.i64 1)).bind fun v75 =>
    (prun Tryz.prog (Instr.index 9 s0_1 v75)).bind fun v76 =>
    (bin .eql v76 (Value.int IntKind.u8 110)).bind fun v77 =>
    (asB v77).bind fun c77 =>
    (if c77 then
      (prun Tryz.prog (Instr.fieldAt 74 w6 2)).bind fun v78 =>
      (rrun Tryz.prog (Instr.loadAt 9 v78) r70.2).bind fun v79 =>
      (prun Tryz.prog (do eqGuard .add 9 (Operand.tmp 79) (Operand.const (Value.string { data := #[10] })) v79 (Value.string { data := #[10] }); binOp .add 9 v79 (Value.string { data := #[10] }))).bind fun v80 =>
      (prun Tryz.prog (Instr.fieldAt 74 w6 2)).bind fun v81 =>
      (erun Tryz.prog (Instr.storeAt 9 v81 v80) r70.2).bind fun r_5 =>
      some (Res.norm [s0_1, v4, w6, i7] r_5.2)
     else
      (prun Tryz.prog (Instr.fieldAt 74 w6 2)).bind fun v82 =>
      (rrun Tryz.prog (Instr.loadAt 9 v82) r70.2.drew).bind fun v83 =>
      (bin .add i7 (Value.int IntKind.i64 1)).bind fun v86 =>
      (bin .add i7 (Value.int IntKind.i64 2)).bind fun v88 =>
      (prun Tryz.prog (Instr.sliceAt 9 s0_1 (some v86) (some v88) none)).bind fun v89 =>
      (prun Tryz.prog (do eqGuard .add 9 (Operand.tmp 83) (Operand.tmp 89) v83 v89; binOp .add 9 v83 v89)).bind fun v90 =>
      (prun Tryz.prog (Instr.fieldAt 74 w6 2)).bind fun v91 =>
      (erun Tryz.prog (Instr.storeAt 9 v91 v90) r70.2.drew).bind fun r_6 =>
      some (Res.norm [s0_1, v4, w6, i7] r_6.2)).bind fun (r : Res) => r.cont fun vs_1 W2 =>
    let s0_2 := nth vs_1 0
    let v4_1 := nth vs_1 1
    let w6_1 := nth vs_1 2
    let i7_1 := nth vs_1 3
    (bin .add i7_1 (Value.int IntKind.i64 2)).bind fun v93 =>
    some (Res.norm [s0_2, v4_1, w6_1, v93] W2)).bind fun (r : Res) => (r.unblock 1).cont fun vs_2 W3 =>
    let s0_3 := nth vs_2 0
    let v4_2 := nth vs_2 1
    let w6_2 := nth vs_2 2
    let i7_2 := nth vs_2 3
    some (Res.norm [s0_3, v4_2, w6_2, i7_2] W3)
  else
  some (Res.exit 0 [v4, w6, i7] r21.2)
noncomputable def f70 (call : CallF) (s0 : Value) (at1 : Value) (W0 : World) : Option (Value × World) :=
  ((erun Tryz.prog (Instr.alloc 74 true (.tuple #[])) W0).bind fun r4 =>
  (prun Tryz.prog (Instr.build 74 #[(0, at1), (1, (Value.bool true))])).bind fun v9 =>
  (erun Tryz.prog (Instr.alloc 74 true (.tuple #[])) r4.2).bind fun r6 =>
  (erun Tryz.prog (Instr.storeAt 74 r6.1 v9) r6.2).bind fun r =>
  (bin .add at1 (Value.int IntKind.i64 1)).bind fun v11 =>
  (iter (f70.l0 call) [s0, r4.1, r6.1, v11] r.2).bind fun (r : Res) => (r.unblock 0).cont fun vs_3 W4 =>
  let v4_3 := nth vs_3 0
  let w6_3 := nth vs_3 1
  let i7_3 := nth vs_3 2
  (rrun Tryz.prog (Instr.loadAt 74 w6_3) W4).bind fun v94 =>
  (erun Tryz.prog (Instr.storeAt 74 v4_3 v94) W4).bind fun r_7 =>
  some (Res.ret [v4_3, i7_3] r_7.2)).bind (Res.doneR Tryz.prog [.cell 4 74, .tmp 5])
theorem f70.eq (call dfr : CallF) (s0 : Value) (at1 : Value) (W0 : World) : aFun Tryz.prog call dfr Tryz.f70 f70.ann (ofArgs #[s0, at1]) W0 = f70 call s0 at1 W0 := by kernel_rfl

/-- dailies/dailiesref19.plain -/
def f71.ann : Ann := (.s .z (.s (.s .z (.c (.s .z .z) .z)) (.s (.s .z (.c (.s .z .z) .z)) (.s .z .z))))
noncomputable def f71 (call : CallF) (l0 : Value) (end1 : Value) (k2 : Value) (W0 : World) : Option (Value × World) :=
  ((erun Tryz.prog (Instr.alloc 76 true (.tuple #[])) W0).bind fun r7 =>
  (prun Tryz.prog (Builtin.len_ #[70] 3 #[l0])).bind fun v11 =>
  (bin .geq k2 v11).bind fun v12 =>
  (asB v12).bind fun c12 =>
  if c12 then
    (prun Tryz.prog (Instr.build 76 #[(0, end1), (1, (Value.int IntKind.i64 193))])).bind fun v14 =>
    (erun Tryz.prog (Instr.storeAt 76 r7.1 v14) r7.2).bind fun r =>
    some (Res.ret [(Value.string { data := #[] }), r7.1, (Value.bool false)] r.2)
  else
  (prun Tryz.prog (Instr.indexAt 70 l0 k2)).bind fun v17 =>
  (prun Tryz.prog (Instr.fieldAt 74 v17 1)).bind fun v18 =>
  (rrun Tryz.prog (Instr.loadAt 4 v18) r7.2).bind fun v19 =>
  (asB v19).bind fun c19 =>
  if c19 then
    (prun Tryz.prog (Instr.indexAt 70 l0 k2)).bind fun v22 =>
    (prun Tryz.prog (Instr.fieldAt 74 v22 0)).bind fun v23 =>
    (rrun Tryz.prog (Instr.loadAt 3 v23) r7.2.drew).bind fun v24 =>
    (prun Tryz.prog (Instr.build 76 #[(0, v24), (1, (Value.int IntKind.i64 193))])).bind fun v25 =>
    (erun Tryz.prog (Instr.storeAt 76 r7.1 v25) r7.2.drew).bind fun r_1 =>
    some (Res.ret [(Value.string { data := #[] }), r7.1, (Value.bool false)] r_1.2)
  else
  (prun Tryz.prog (Instr.indexAt 70 l0 k2)).bind fun v28 =>
  (prun Tryz.prog (Instr.fieldAt 74 v28 2)).bind fun v29 =>
  (rrun Tryz.prog (Instr.loadAt 9 v29) r7.2).bind fun v30 =>
  (prun Tryz.prog (Instr.build 76 #[])).bind fun v31 =>
  (erun Tryz.prog (Instr.storeAt 76 r7.1 v31) r7.2).bind fun r_2 =>
  some (Res.ret [v30, r7.1, (Value.bool true)] r_2.2)).bind (Res.doneR Tryz.prog [.tmp 6, .cell 7 76, .tmp 8])
theorem f71.eq (call dfr : CallF) (l0 : Value) (end1 : Value) (k2 : Value) (W0 : World) : aFun Tryz.prog call dfr Tryz.f71 f71.ann (ofArgs #[l0, end1, k2]) W0 = f71 call l0 end1 k2 W0 := by kernel_rfl

/-- dailies/dailiesref19.texted -/
def f72.ann : Ann := (.s .z (.s (.s .z (.c (.s .z .z) .z)) (.s (.s .z (.c (.s .z .z) .z)) (.s (.s .z (.c (.s .z .z) .z)) (.s .z .z)))))
noncomputable def f72 (call : CallF) (l0 : Value) (end1 : Value) (k2 : Value) (W0 : World) : Option (Value × World) :=
  ((erun Tryz.prog (Instr.alloc 76 true (.tuple #[])) W0).bind fun r7 =>
  (prun Tryz.prog (Builtin.len_ #[70] 3 #[l0])).bind fun v11 =>
  (bin .geq k2 v11).bind fun v12 =>
  (asB v12).bind fun c12 =>
  if c12 then
    (prun Tryz.prog (Instr.build 76 #[(0, end1), (1, (Value.int IntKind.i64 193))])).bind fun v14 =>
    (erun Tryz.prog (Instr.storeAt 76 r7.1 v14) r7.2).bind fun r =>
    some (Res.ret [(Value.string { data := #[] }), r7.1, (Value.bool false)] r.2)
  else
  (prun Tryz.prog (Instr.indexAt 70 l0 k2)).bind fun v17 =>
  (prun Tryz.prog (Instr.fieldAt 74 v17 1)).bind fun v18 =>
  (rrun Tryz.prog (Instr.loadAt 4 v18) r7.2).bind fun v19 =>
  (prun Tryz.prog (Op.unary .not v19)).bind fun v20 =>
  (asB v20).bind fun b21 =>
  (if b21 = false then (prun Tryz.prog (Instr.indexAt 70 l0 k2)).bind fun v24 =>
    (prun Tryz.prog (Instr.fieldAt 74 v24 3)).bind fun v25 =>
    (rrun Tryz.prog (Instr.loadAt 4 v25) r7.2).bind fun v26 =>
    (prun Tryz.prog (Op.unary .not v26)).bind fun v27 =>
    some (v27, r7.2)
   else some ((Value.bool true), r7.2)).bind fun r28 =>
  (asB r28.1).bind fun c28 =>
  if c28 then
    (prun Tryz.prog (Instr.indexAt 70 l0 k2)).bind fun v31 =>
    (prun Tryz.prog (Instr.fieldAt 74 v31 0)).bind fun v32 =>
    (rrun Tryz.prog (Instr.loadAt 3 v32) r28.2.drew).bind fun v33 =>
    (prun Tryz.prog (Instr.build 76 #[(0, v33), (1, (Value.int IntKind.i64 193))])).bind fun v34 =>
    (erun Tryz.prog (Instr.storeAt 76 r7.1 v34) r28.2.drew).bind fun r_1 =>
    some (Res.ret [(Value.string { data := #[] }), r7.1, (Value.bool false)] r_1.2)
  else
  (prun Tryz.prog (Instr.indexAt 70 l0 k2)).bind fun v37 =>
  (prun Tryz.prog (Instr.fieldAt 74 v37 2)).bind fun v38 =>
  (rrun Tryz.prog (Instr.loadAt 9 v38) r28.2).bind fun v39 =>
  (prun Tryz.prog (Builtin.len_ #[9] 3 #[v39])).bind fun v40 =>
  (bin .gtr v40 (Value.int IntKind.i64 100)).bind fun v41 =>
  (asB v41).bind fun c41 =>
  if c41 then
    (prun Tryz.prog (Instr.indexAt 70 l0 k2)).bind fun v44 =>
    (prun Tryz.prog (Instr.fieldAt 74 v44 0)).bind fun v45 =>
    (rrun Tryz.prog (Instr.loadAt 3 v45) r28.2.drew).bind fun v46 =>
    (prun Tryz.prog (Instr.build 76 #[(0, v46), (1, (Value.int IntKind.i64 191))])).bind fun v47 =>
    (erun Tryz.prog (Instr.storeAt 76 r7.1 v47) r28.2.drew).bind fun r_2 =>
    some (Res.ret [(Value.string { data := #[] }), r7.1, (Value.bool false)] r_2.2)
  else
  (prun Tryz.prog (Instr.indexAt 70 l0 k2)).bind fun v50 =>
  (prun Tryz.prog (Instr.fieldAt 74 v50 2)).bind fun v51 =>
  (rrun Tryz.prog (Instr.loadAt 9 v51) r28.2).bind fun v52 =>
  (prun Tryz.prog (Instr.build 76 #[])).bind fun v53 =>
  (erun Tryz.prog (Instr.storeAt 76 r7.1 v53) r28.2).bind fun r_3 =>
  some (Res.ret [v52, r7.1, (Value.bool true)] r_3.2)).bind (Res.doneR Tryz.prog [.tmp 6, .cell 7 76, .tmp 8])
theorem f72.eq (call dfr : CallF) (l0 : Value) (end1 : Value) (k2 : Value) (W0 : World) : aFun Tryz.prog call dfr Tryz.f72 f72.ann (ofArgs #[l0, end1, k2]) W0 = f72 call l0 end1 k2 W0 := by kernel_rfl

/-- dailies/dailiesref19.named -/
def f73.ann : Ann := (.s .z (.s .z (.s .z (.s (.s .z (.c (.s .z .z) .z)) (.s (.s .z (.c (.s .z .z) .z)) (.s .z (.s (.s .z (.j [0, 1, 4, 6, 7, 9, 11] (.s .z (.s (.s .z (.c (.s .z .z) .z)) (.s .z (.s (.s .z (.c (.s .z .z) .z)) .z)))) .z)) (.s .z (.s (.s .z (.c (.s .z .z) .z)) (.s .z (.s (.s .z (.c (.s .z .z) .z)) (.s .z (.s .z .z)))))))))))))
noncomputable def f73 (call : CallF) (l0 : Value) (end1 : Value) (W0 : World) : Option (Value × World) :=
  ((erun Tryz.prog (Instr.alloc 51 true (.tuple #[])) W0).bind fun r4 =>
  (erun Tryz.prog (Instr.alloc 76 true (.tuple #[])) r4.2).bind fun r6 =>
  (erun Tryz.prog (Instr.alloc 51 true (.tuple #[])) r6.2).bind fun r7 =>
  (call 71 #[l0, end1, (Value.int IntKind.i64 0)] r7.2).bind fun r16 =>
  (prun Tryz.prog (Instr.extract r16.1 0)).bind fun v17 =>
  (prun Tryz.prog (Instr.extract r16.1 1)).bind fun v18 =>
  (prun Tryz.prog (Instr.extract r16.1 2)).bind fun v19 =>
  (erun Tryz.prog (Instr.alloc 76 true (.tuple #[])) r16.2).bind fun r9 =>
  (erun Tryz.prog (Instr.storeAt 76 r9.1 v18) r9.2).bind fun r =>
  (prun Tryz.prog (Op.unary .not v19)).bind fun v21 =>
  (asB v21).bind fun c21 =>
  if c21 then
    ((rrun Tryz.prog (Instr.loadAt 51 r7.1) r.2.drew).bind fun v22 =>
    some (v22, r.2.drew)).bind fun r22 =>
    ((rrun Tryz.prog (Instr.loadAt 76 r9.1) r22.2).bind fun v23 =>
    some (v23, r22.2)).bind fun r23 =>
    ((erun Tryz.prog (Instr.storeAt 51 r4.1 r22.1) r23.2).bind fun r_2 =>
    some (undef, r_2.2)).bind fun r_1 =>
    ((erun Tryz.prog (Instr.storeAt 76 r6.1 r23.1) r_1.2).bind fun r_4 =>
    some (undef, r_4.2)).bind fun r_3 =>
    chkThen ((((rrun Tryz.prog (Instr.loadAt 76 r9.1) r23.2).bind fun v23_1 => some v23_1) = some r23.1 ∧ ((rrun Tryz.prog (Instr.loadAt 76 r9.1) r_1.2).bind fun v23_2 => some v23_2) = some r23.1) ∧ True)
    (some (Res.ret [r4.1, (Value.int IntKind.i64 0), r6.1] r_3.2))
  else
  (prun Tryz.prog (do eqGuard .neq 9 (Operand.tmp 24) (Operand.const (Value.string { data := #[99, 117, 116] })) v17 (Value.string { data := #[99, 117, 116] }); binOp .neq 9 v17 (Value.string { data := #[99, 117, 116] }))).bind fun v25 =>
  (asB v25).bind fun b26 =>
  (if b26 = true then (prun Tryz.prog (do eqGuard .neq 9 (Operand.tmp 27) (Operand.const (Value.string { data := #[102, 97, 100, 101] })) v17 (Value.string { data := #[102, 97, 100, 101] }); binOp .neq 9 v17 (Value.string { data := #[102, 97, 100, 101] }))).bind fun v28 =>
    some (v28, r.2)
   else some ((Value.bool false), r.2)).bind fun r29 =>
  (asB r29.1).bind fun c29 =>
  if c29 then
    ((rrun Tryz.prog (Instr.loadAt 51 r7.1) r29.2.drew).bind fun v30 =>
    some (v30, r29.2.drew)).bind fun r30 =>
    ((prun Tryz.prog (Instr.indexAt 70 l0 (Value.int IntKind.i64 0))).bind fun v32 =>
    some (v32, r30.2)).bind fun r32 =>
    ((prun Tryz.prog (Instr.fieldAt 74 r32.1 0)).bind fun v33 =>
    some (v33, r32.2)).bind fun r33 =>
    ((rrun Tryz.prog (Instr.loadAt 3 r33.1) r33.2).bind fun v34 =>
    some (v34, r33.2)).bind fun r34 =>
    ((prun Tryz.prog (Instr.build 76 #[(0, r34.1), (1, (Value.int IntKind.i64 193))])).bind fun v35 =>
    some (v35, r34.2)).bind fun r35 =>
    ((erun Tryz.prog (Instr.storeAt 51 r4.1 r30.1) r35.2).bind fun r_6 =>
    some (undef, r_6.2)).bind fun r_5 =>
    ((erun Tryz.prog (Instr.storeAt 76 r6.1 r35.1) r_5.2).bind fun r_8 =>
    some (undef, r_8.2)).bind fun r_7 =>
    chkThen ((((rrun Tryz.prog (Instr.loadAt 3 r33.1) r35.2).bind fun v34_1 => some v34_1) = some r34.1 ∧ ((rrun Tryz.prog (Instr.loadAt 3 r33.1) r_5.2).bind fun v34_2 => some v34_2) = some r34.1) ∧ True)
    (some (Res.ret [r4.1, (Value.int IntKind.i64 0), r6.1] r_7.2))
  else
  (prun Tryz.prog (do eqGuard .eql 9 (Operand.tmp 36) (Operand.const (Value.string { data := #[102, 97, 100, 101] })) v17 (Value.string { data := #[102, 97, 100, 101] }); binOp .eql 9 v17 (Value.string { data := #[102, 97, 100, 101] }))).bind fun v37 =>
  (asB v37).bind fun c37 =>
  (if c37 then
    (call 71 #[l0, end1, (Value.int IntKind.i64 1)] r29.2).bind fun r41 =>
    (prun Tryz.prog (Instr.extract r41.1 0)).bind fun v42 =>
    (prun Tryz.prog (Instr.extract r41.1 1)).bind fun v43 =>
    (prun Tryz.prog (Instr.extract r41.1 2)).bind fun v44 =>
    (erun Tryz.prog (Instr.storeAt 76 r9.1 v43) r41.2).bind fun r_9 =>
    (prun Tryz.prog (Op.unary .not v44)).bind fun v46 =>
    (asB v46).bind fun c46 =>
    if c46 then
      ((rrun Tryz.prog (Instr.loadAt 51 r7.1) r_9.2.drew).bind fun v47 =>
      some (v47, r_9.2.drew)).bind fun r47 =>
      ((rrun Tryz.prog (Instr.loadAt 76 r9.1) r47.2).bind fun v48 =>
      some (v48, r47.2)).bind fun r48 =>
      ((erun Tryz.prog (Instr.storeAt 51 r4.1 r47.1) r48.2).bind fun r_11 =>
      some (undef, r_11.2)).bind fun r_10 =>
      ((erun Tryz.prog (Instr.storeAt 76 r6.1 r48.1) r_10.2).bind fun r_13 =>
      some (undef, r_13.2)).bind fun r_12 =>
      chkThen ((((rrun Tryz.prog (Instr.loadAt 76 r9.1) r48.2).bind fun v48_1 => some v48_1) = some r48.1 ∧ ((rrun Tryz.prog (Instr.loadAt 76 r9.1) r_10.2).bind fun v48_2 => some v48_2) = some r48.1) ∧ True)
      (some (Res.ret [r4.1, (Value.int IntKind.i64 0), r6.1] r_12.2))
    else
    (call 101 #[v42] r_9.2).bind fun r50 =>
    (prun Tryz.prog (Instr.fieldAt 51 r7.1 3)).bind fun v51 =>
    (erun Tryz.prog (Instr.storeAt 3 v51 r50.1) r50.2).bind fun r_14 =>
    (prun Tryz.prog (Instr.fieldAt 51 r7.1 3)).bind fun v52 =>
    (rrun Tryz.prog (Instr.loadAt 3 v52) r_14.2).bind fun v53 =>
    (bin .eql v53 (Value.int IntKind.i64 0)).bind fun v54 =>
    (asB v54).bind fun c54 =>
    if c54 then
      ((rrun Tryz.prog (Instr.loadAt 51 r7.1) r_14.2.drew).bind fun v55 =>
      some (v55, r_14.2.drew)).bind fun r55 =>
      ((prun Tryz.prog (Instr.indexAt 70 l0 (Value.int IntKind.i64 1))).bind fun v57 =>
      some (v57, r55.2)).bind fun r57 =>
      ((prun Tryz.prog (Instr.fieldAt 74 r57.1 0)).bind fun v58 =>
      some (v58, r57.2)).bind fun r58 =>
      ((rrun Tryz.prog (Instr.loadAt 3 r58.1) r58.2).bind fun v59 =>
      some (v59, r58.2)).bind fun r59 =>
      ((prun Tryz.prog (Instr.build 76 #[(0, r59.1), (1, (Value.int IntKind.i64 193))])).bind fun v60 =>
      some (v60, r59.2)).bind fun r60 =>
      ((erun Tryz.prog (Instr.storeAt 51 r4.1 r55.1) r60.2).bind fun r_16 =>
      some (undef, r_16.2)).bind fun r_15 =>
      ((erun Tryz.prog (Instr.storeAt 76 r6.1 r60.1) r_15.2).bind fun r_18 =>
      some (undef, r_18.2)).bind fun r_17 =>
      chkThen ((((rrun Tryz.prog (Instr.loadAt 3 r58.1) r60.2).bind fun v59_1 => some v59_1) = some r59.1 ∧ ((rrun Tryz.prog (Instr.loadAt 3 r58.1) r_15.2).bind fun v59_2 => some v59_2) = some r59.1) ∧ True)
      (some (Res.ret [r4.1, (Value.int IntKind.i64 0), r6.1] r_17.2))
    else
    some (Res.norm [l0, end1, r4.1, r6.1, r7.1, r9.1, (Value.int IntKind.i64 2)] r_14.2)
   else
    some (Res.norm [l0, end1, r4.1, r6.1, r7.1, r9.1, (Value.int IntKind.i64 1)] r29.2)).bind fun (r : Res) => r.cont fun vs W1 =>
  let l0_1 := nth vs 0
  let end1_1 := nth vs 1
  let v4 := nth vs 2
  let v6 := nth vs 3
  let e7 := nth vs 4
  let x9 := nth vs 5
  let k11 := nth vs 6
  (call 71 #[l0_1, end1_1, k11] W1).bind fun r65 =>
  (prun Tryz.prog (Instr.extract r65.1 0)).bind fun v66 =>
  (prun Tryz.prog (Instr.extract r65.1 1)).bind fun v67 =>
  (prun Tryz.prog (Instr.extract r65.1 2)).bind fun v68 =>
  (erun Tryz.prog (Instr.storeAt 76 x9 v67) r65.2).bind fun r_19 =>
  (prun Tryz.prog (Op.unary .not v68)).bind fun v70 =>
  (asB v70).bind fun c70 =>
  if c70 then
    ((rrun Tryz.prog (Instr.loadAt 51 e7) r_19.2.drew).bind fun v71 =>
    some (v71, r_19.2.drew)).bind fun r71 =>
    ((rrun Tryz.prog (Instr.loadAt 76 x9) r71.2).bind fun v72 =>
    some (v72, r71.2)).bind fun r72 =>
    ((erun Tryz.prog (Instr.storeAt 51 v4 r71.1) r72.2).bind fun r_21 =>
    some (undef, r_21.2)).bind fun r_20 =>
    ((erun Tryz.prog (Instr.storeAt 76 v6 r72.1) r_20.2).bind fun r_23 =>
    some (undef, r_23.2)).bind fun r_22 =>
    chkThen ((((rrun Tryz.prog (Instr.loadAt 76 x9) r72.2).bind fun v72_1 => some v72_1) = some r72.1 ∧ ((rrun Tryz.prog (Instr.loadAt 76 x9) r_20.2).bind fun v72_2 => some v72_2) = some r72.1) ∧ True)
    (some (Res.ret [v4, (Value.int IntKind.i64 0), v6] r_22.2))
  else
  (call 102 #[v66] r_19.2).bind fun r74 =>
  (prun Tryz.prog (Op.unary .not r74.1)).bind fun v76 =>
  (asB v76).bind fun c76 =>
  if c76 then
    ((rrun Tryz.prog (Instr.loadAt 51 e7) r74.2.drew).bind fun v77 =>
    some (v77, r74.2.drew)).bind fun r77 =>
    ((prun Tryz.prog (Instr.indexAt 70 l0_1 k11)).bind fun v80 =>
    some (v80, r77.2)).bind fun r80 =>
    ((prun Tryz.prog (Instr.fieldAt 74 r80.1 0)).bind fun v81 =>
    some (v81, r80.2)).bind fun r81 =>
    ((rrun Tryz.prog (Instr.loadAt 3 r81.1) r81.2).bind fun v82 =>
    some (v82, r81.2)).bind fun r82 =>
    ((prun Tryz.prog (Instr.build 76 #[(0, r82.1), (1, (Value.int IntKind.i64 193))])).bind fun v83 =>
    some (v83, r82.2)).bind fun r83 =>
    ((erun Tryz.prog (Instr.storeAt 51 v4 r77.1) r83.2).bind fun r_25 =>
    some (undef, r_25.2)).bind fun r_24 =>
    ((erun Tryz.prog (Instr.storeAt 76 v6 r83.1) r_24.2).bind fun r_27 =>
    some (undef, r_27.2)).bind fun r_26 =>
    chkThen ((((rrun Tryz.prog (Instr.loadAt 3 r81.1) r83.2).bind fun v82_1 => some v82_1) = some r82.1 ∧ ((rrun Tryz.prog (Instr.loadAt 3 r81.1) r_24.2).bind fun v82_2 => some v82_2) = some r82.1) ∧ True)
    (some (Res.ret [v4, (Value.int IntKind.i64 0), v6] r_26.2))
  else
  (prun Tryz.prog (Instr.fieldAt 51 e7 0)).bind fun v85 =>
  (erun Tryz.prog (Instr.storeAt 9 v85 v66) r74.2).bind fun r_28 =>
  (rrun Tryz.prog (Instr.loadAt 51 e7) r_28.2).bind fun v86 =>
  (bin .add k11 (Value.int IntKind.i64 1)).bind fun v88 =>
  (prun Tryz.prog (Instr.build 76 #[])).bind fun v89 =>
  (erun Tryz.prog (Instr.storeAt 51 v4 v86) r_28.2).bind fun r_29 =>
  (erun Tryz.prog (Instr.storeAt 76 v6 v89) r_29.2).bind fun r_30 =>
  some (Res.ret [v4, v88, v6] r_30.2)).bind (Res.doneR Tryz.prog [.cell 4 51, .tmp 5, .cell 6 76])
theorem f73.eq (call dfr : CallF) (l0 : Value) (end1 : Value) (W0 : World) : aFun Tryz.prog call dfr Tryz.f73 f73.ann (ofArgs #[l0, end1]) W0 = f73 call l0 end1 W0 := by kernel_rfl

/-- dailies/dailiesref18.Number -/
def f74.ann : Ann := (.s .z (.s .z (.s .z .z)))
noncomputable def f74 (call : CallF) (r0 : Value) (s1 : Value) (W0 : World) : Option (Value × World) :=
  ((call 103 #[r0, s1] W0).bind fun r12 =>
  (prun Tryz.prog (Instr.extract r12.1 0)).bind fun v13 =>
  (prun Tryz.prog (Instr.extract r12.1 1)).bind fun v14 =>
  (prun Tryz.prog (Instr.extract r12.1 2)).bind fun v15 =>
  some (Res.ret [v13, v15] r12.2)).bind Res.done
theorem f74.eq (call dfr : CallF) (r0 : Value) (s1 : Value) (W0 : World) : aFun Tryz.prog call dfr Tryz.f74 f74.ann (ofArgs #[r0, s1]) W0 = f74 call r0 s1 W0 := by kernel_rfl

/-- dailies/dailiesref19.fadeMay -/
def f75.ann : Ann := (.s .z (.s .z (.s .z (.s (.s .z (.c (.s .z .z) .z)) (.s (.s .z (.c (.s .z .z) .z)) (.s (.s .z (.c (.s .z .z) .z)) (.s .z (.s .z .z))))))))
noncomputable def f75 (call : CallF) (l0 : Value) (W0 : World) : Option (Value × World) :=
  ((prun Tryz.prog (Builtin.len_ #[28] 3 #[l0])).bind fun v7 =>
  (bin .sub v7 (Value.int IntKind.i64 1)).bind fun v8 =>
  (prun Tryz.prog (Instr.indexAt 28 l0 v8)).bind fun v11 =>
  (rrun Tryz.prog (Instr.loadAt 51 v11) W0).bind fun v12 =>
  (erun Tryz.prog (Instr.alloc 51 true (.tuple #[])) W0).bind fun r4 =>
  (erun Tryz.prog (Instr.storeAt 51 r4.1 v12) r4.2).bind fun r =>
  (prun Tryz.prog (Instr.fieldAt 51 r4.1 3)).bind fun v13 =>
  (rrun Tryz.prog (Instr.loadAt 3 v13) r.2).bind fun v14 =>
  (bin .lss v14 (Value.int IntKind.i64 0)).bind fun v15 =>
  (asB v15).bind fun b16 =>
  (if b16 = false then (prun Tryz.prog (Instr.fieldAt 51 r4.1 3)).bind fun v17 =>
    (rrun Tryz.prog (Instr.loadAt 3 v17) r.2).bind fun v18 =>
    (bin .gtr v18 (Value.int IntKind.i64 100)).bind fun v19 =>
    some (v19, r.2)
   else some ((Value.bool true), r.2)).bind fun r20 =>
  (asB r20.1).bind fun c20 =>
  if c20 then
    some (Res.ret [(Value.bool false)] r20.2)
  else
  (prun Tryz.prog (Instr.fieldAt 51 r4.1 3)).bind fun v21 =>
  (rrun Tryz.prog (Instr.loadAt 3 v21) r20.2).bind fun v22 =>
  (bin .eql v22 (Value.int IntKind.i64 0)).bind fun v23 =>
  (asB v23).bind fun c23 =>
  if c23 then
    some (Res.ret [(Value.bool true)] r20.2)
  else
  (bin .eql v8 (Value.int IntKind.i64 0)).bind fun v25 =>
  (asB v25).bind fun b26 =>
  (if b26 = false then (prun Tryz.prog (Instr.fieldAt 51 r4.1 3)).bind fun v27 =>
    (rrun Tryz.prog (Instr.loadAt 3 v27) r20.2).bind fun v28 =>
    (prun Tryz.prog (Instr.fieldAt 51 r4.1 2)).bind fun v29 =>
    (rrun Tryz.prog (Instr.loadAt 3 v29) r20.2).bind fun v30 =>
    (prun Tryz.prog (Instr.fieldAt 51 r4.1 1)).bind fun v31 =>
    (rrun Tryz.prog (Instr.loadAt 3 v31) r20.2).bind fun v32 =>
    (bin .sub v30 v32).bind fun v33 =>
    (bin .gtr v28 v33).bind fun v34 =>
    some (v34, r20.2)
   else some ((Value.bool true), r20.2)).bind fun r35 =>
  (asB r35.1).bind fun c35 =>
  if c35 then
    some (Res.ret [(Value.bool false)] r35.2)
  else
  (bin .sub v8 (Value.int IntKind.i64 1)).bind fun v38 =>
  (prun Tryz.prog (Instr.indexAt 28 l0 v38)).bind fun v39 =>
  (rrun Tryz.prog (Instr.loadAt 51 v39) r35.2).bind fun v40 =>
  (erun Tryz.prog (Instr.alloc 51 true (.tuple #[])) r35.2).bind fun r5 =>
  (erun Tryz.prog (Instr.storeAt 51 r5.1 v40) r5.2).bind fun r_1 =>
  (prun Tryz.prog (Instr.fieldAt 51 r4.1 3)).bind fun v41 =>
  (rrun Tryz.prog (Instr.loadAt 3 v41) r_1.2).bind fun v42 =>
  (prun Tryz.prog (Instr.fieldAt 51 r5.1 2)).bind fun v43 =>
  (rrun Tryz.prog (Instr.loadAt 3 v43) r_1.2).bind fun v44 =>
  (prun Tryz.prog (Instr.fieldAt 51 r5.1 1)).bind fun v45 =>
  (rrun Tryz.prog (Instr.loadAt 3 v45) r_1.2).bind fun v46 =>
  (bin .sub v44 v46).bind fun v47 =>
  (prun Tryz.prog (Instr.fieldAt 51 r5.1 3)).bind fun v48 =>
  (rrun Tryz.prog (Instr.loadAt 3 v48) r_1.2).bind fun v49 =>
  (bin .sub v47 v49).bind fun v50 =>
  (bin .leq v42 v50).bind fun v51 =>
  some (Res.ret [v51] r_1.2)).bind Res.done
theorem f75.eq (call dfr : CallF) (l0 : Value) (W0 : World) : aFun Tryz.prog call dfr Tryz.f75 f75.ann (ofArgs #[l0]) W0 = f75 call l0 W0 := by kernel_rfl

/-- errors.as -/
def f79.ann : Ann := (.s .z (.b [8] (.l [0, 1, 3, 6] (.b [0, 1, 3, 6] (.s (.s .z (.c (.s .z (.s .z .z)) .z)) (.s (.s .z (.s .z (.c (.s .z .z) .z))) (.s .z (.b [0, 1, 3, 6] (.s .z (.c (.s .z (.s .z (.s .z (.c (.s .z .z) .z)))) (.s .z (.c (.s .z (.s (.s .z (.b [] (.l [1, 3, 6, 48, 49, 50] (.s .z (.s (.c .z .z) (.s (.b [1, 3, 6, 48, 49, 50] (.s .z (.s (.s .z (.c .z .z)) (.s .z (.c (.s .z .z) .z))))) .z)))))) (.s .z .z))) (.s .z (.s .z .z))))))))))))))
noncomputable def f79.l0 (call : CallF) (vs_1 : List Value) (W2 : World) : Option Res :=
  let target1_2 := nth vs_1 0
  let targetType3_2 := nth vs_1 1
  let targetVal6_1 := nth vs_1 2
  let v48 := nth vs_1 3
  let v49_1 := nth vs_1 4
  let v50 := nth vs_1 5
  (bin .lss v50 v49_1).bind fun v51 =>
  (asB v51).bind fun c51 =>
  if c51 then
    ((prun Tryz.prog (Instr.indexAt 170 v48 v50)).bind fun v52 =>
    (rrun Tryz.prog (Instr.loadAt 32 v52) W2).bind fun v53 =>
    (rrun Tryz.prog (do eqGuard .eql 32 (Operand.tmp 54) (Operand.const Value.nilIface) v53 Value.nilIface; binOp .eql 32 v53 Value.nilIface) W2).bind fun v55 =>
    (asB v55).bind fun c55 =>
    if c55 then
      some (Res.exit 4 [target1_2, targetType3_2, targetVal6_1, v48, v49_1, v50] W2)
    else
    (rrun Tryz.prog (Instr.loadAt 137 targetVal6_1) W2).bind fun v58 =>
    (call 79 #[v53, target1_2, v58, targetType3_2] W2).bind fun r60 =>
    (asB r60.1).bind fun c60 =>
    if c60 then
      some (Res.ret [(Value.bool true)] r60.2)
    else
    some (Res.norm [target1_2, targetType3_2, targetVal6_1, v48, v49_1, v50] r60.2)).bind fun (r : Res) => (r.unblock 4).cont fun vs_2 W3 =>
    let target1_3 := nth vs_2 0
    let targetType3_3 := nth vs_2 1
    let targetVal6_2 := nth vs_2 2
    let v48_1 := nth vs_2 3
    let v49_2 := nth vs_2 4
    let v50_1 := nth vs_2 5
    (bin .add v50_1 (Value.int IntKind.i64 1)).bind fun v61 =>
    some (Res.norm [target1_3, targetType3_3, targetVal6_2, v48_1, v49_2, v61] W3)
  else
  some (Res.exit 3 [] W2)
noncomputable def f79.l1 (call : CallF) (vs : List Value) (W1 : World) : Option Res :=
  let err0_1 := nth vs 0
  let target1_1 := nth vs 1
  let targetType3_1 := nth vs 2
  let targetVal6 := nth vs 3
  ((xrun Tryz.prog (callFunc 52 #[err0_1]) W1).bind fun r17 =>
  (imethod Tryz.prog r17.1 "AssignableTo" r17.2).bind fun m19 =>
  (call m19.1 #[m19.2, targetType3_1] r17.2).bind fun r19 =>
  (asB r19.1).bind fun c19 =>
  if c19 then
    (rrun Tryz.prog (Instr.loadAt 137 targetVal6) r19.2).bind fun v20 =>
    (xrun Tryz.prog (callFunc 104 #[v20]) r19.2).bind fun r21 =>
    (xrun Tryz.prog (callFunc 76 #[err0_1]) r21.2).bind fun r23 =>
    (xrun Tryz.prog (callFunc 105 #[r21.1, r23.1]) r23.2).bind fun r24 =>
    some (Res.ret [(Value.bool true)] r24.2)
  else
  (prun Tryz.prog (Instr.typeAssert err0_1 32 185 true)).bind fun v27 =>
  (prun Tryz.prog (Instr.extract v27 0)).bind fun v28 =>
  (prun Tryz.prog (Instr.extract v27 1)).bind fun v29 =>
  (asB v29).bind fun b31 =>
  (if b31 = true then (imethod Tryz.prog v28 "As" r19.2).bind fun m34 =>
    (call m34.1 #[m34.2, target1_1] r19.2).bind fun r34 =>
    some (r34.1, r34.2)
   else some ((Value.bool false), r19.2)).bind fun r35 =>
  (asB r35.1).bind fun c35 =>
  if c35 then
    some (Res.ret [(Value.bool true)] r35.2)
  else
  ((prun Tryz.prog (Instr.typeAssert err0_1 32 168 true)).bind fun v37 =>
  (prun Tryz.prog (Instr.extract v37 1)).bind fun v38 =>
  (prun Tryz.prog (Instr.extract v37 0)).bind fun v39 =>
  (asB v38).bind fun c38 =>
  if c38 then
    (imethod Tryz.prog v39 "Unwrap" r35.2).bind fun m41 =>
    (call m41.1 #[m41.2] r35.2).bind fun r41 =>
    (rrun Tryz.prog (do eqGuard .eql 32 (Operand.tmp 42) (Operand.const Value.nilIface) r41.1 Value.nilIface; binOp .eql 32 r41.1 Value.nilIface) r41.2).bind fun v43 =>
    (asB v43).bind fun c43 =>
    if c43 then
      some (Res.ret [(Value.bool false)] r41.2)
    else
    some (Res.norm [r41.1, target1_1, targetType3_1, targetVal6] r41.2)
  else
  (prun Tryz.prog (Instr.typeAssert err0_1 32 169 true)).bind fun v44 =>
  (prun Tryz.prog (Instr.extract v44 1)).bind fun v45 =>
  (prun Tryz.prog (Instr.extract v44 0)).bind fun v46 =>
  (asB v45).bind fun c45 =>
  if c45 then
    (imethod Tryz.prog v46 "Unwrap" r35.2).bind fun m48 =>
    (call m48.1 #[m48.2] r35.2).bind fun r48 =>
    (prun Tryz.prog (Builtin.len_ #[170] 3 #[r48.1])).bind fun v49 =>
    (iter (f79.l0 call) [target1_1, targetType3_1, targetVal6, r48.1, v49, (Value.int IntKind.i64 0)] r48.2).bind fun (r : Res) => (r.unblock 3).cont fun vs_3 W4 =>
    some (Res.ret [(Value.bool false)] W4)
  else
  some (Res.ret [(Value.bool false)] r35.2)).bind fun (r : Res) => (r.unblock 2).cont fun vs_4 W5 =>
  let err0_2 := nth vs_4 0
  let target1_4 := nth vs_4 1
  let targetType3_4 := nth vs_4 2
  let targetVal6_3 := nth vs_4 3
  some (Res.norm [err0_2, target1_4, targetType3_4, targetVal6_3] W5)).bind fun (r : Res) => (r.unblock 1).cont fun vs_5 W6 =>
  let err0_3 := nth vs_5 0
  let target1_5 := nth vs_5 1
  let targetType3_5 := nth vs_5 2
  let targetVal6_4 := nth vs_5 3
  some (Res.norm [err0_3, target1_5, targetType3_5, targetVal6_4] W6)
noncomputable def f79 (call : CallF) (err0 : Value) (target1 : Value) (targetVal2 : Value) (targetType3 : Value) (W0 : World) : Option (Value × World) :=
  ((erun Tryz.prog (Instr.box 137 targetVal2) W0).bind fun r6 =>
  (iter (f79.l1 call) [err0, target1, targetType3, r6.1] r6.2).bind fun (r : Res) => (r.unblock 0).cont fun vs_6 W7 =>
  let v8 := nth vs_6 0
  some (Res.norm [v8] W7)).bind Res.done
theorem f79.eq (call dfr : CallF) (err0 : Value) (target1 : Value) (targetVal2 : Value) (targetType3 : Value) (W0 : World) : aFun Tryz.prog call dfr Tryz.f79 f79.ann (ofArgs #[err0, target1, targetVal2, targetType3]) W0 = f79 call err0 target1 targetVal2 targetType3 W0 := by kernel_rfl

/-- dailies/timecode.find -/
def f80.ann : Ann := (.s .z (.s (.s .z (.c (.s .z .z) .z)) (.s .z .z)))
noncomputable def f80 (call : CallF) (r0 : Value) (W0 : World) : Option (Value × World) :=
  ((erun Tryz.prog (Instr.alloc 145 true (.tuple #[])) W0).bind fun r2 =>
  (bin .lss r0 (Value.int IntKind.i64 1)).bind fun v5 =>
  (asB v5).bind fun b6 =>
  (if b6 = false then (bin .gtr r0 (Value.int IntKind.i64 7)).bind fun v8 =>
    some (v8, r2.2)
   else some ((Value.bool true), r2.2)).bind fun r9 =>
  (asB r9.1).bind fun c9 =>
  if c9 then
    (prun Tryz.prog (Instr.build 145 #[])).bind fun v10 =>
    (erun Tryz.prog (Instr.storeAt 145 r2.1 v10) r9.2).bind fun r =>
    some (Res.ret [r2.1, (Value.bool false)] r.2)
  else
  (prun Tryz.prog (Instr.indexAt 188 (.pointer (some ⟨3, 0, none⟩)) r0)).bind fun v12 =>
  (rrun Tryz.prog (Instr.loadAt 145 v12) r9.2).bind fun v13 =>
  (erun Tryz.prog (Instr.storeAt 145 r2.1 v13) r9.2).bind fun r_1 =>
  some (Res.ret [r2.1, (Value.bool true)] r_1.2)).bind (Res.doneR Tryz.prog [.cell 2 145, .tmp 3])
theorem f80.eq (call dfr : CallF) (r0 : Value) (W0 : World) : aFun Tryz.prog call dfr Tryz.f80 f80.ann (ofArgs #[r0]) W0 = f80 call r0 W0 := by kernel_rfl

/-- (dailies/timecode.rate).perDay -/
def f81.ann : Ann := (.s .z (.s .z .z))
noncomputable def f81 (call : CallF) (x0 : Value) (W0 : World) : Option (Value × World) :=
  ((erun Tryz.prog (Instr.box 145 x0) W0).bind fun r1 =>
  (rrun Tryz.prog (Instr.loadAt 145 r1.1) r1.2).bind fun v3 =>
  (call 106 #[v3] r1.2).bind fun r4 =>
  (bin .mul (Value.int IntKind.i64 144) r4.1).bind fun v5 =>
  some (Res.ret [v5] r4.2)).bind Res.done
theorem f81.eq (call dfr : CallF) (x0 : Value) (W0 : World) : aFun Tryz.prog call dfr Tryz.f81 f81.ann (ofArgs #[x0]) W0 = f81 call x0 W0 := by kernel_rfl

/-- unicode/utf8.word[string] -/
def f82.ann : Ann := (.s .z (.s (.c (.s .z .z) .z) (.s .z .z)))
noncomputable def f82 (call : CallF) (s0 : Value) (W0 : World) : Option (Value × World) :=
  ((asB (Value.bool false)).bind fun c =>
  if c then
    (prun Tryz.prog (Instr.index 9 s0 (Value.int IntKind.i64 0))).bind fun v4 =>
    (prun Tryz.prog (convert 5 12 v4)).bind fun v5 =>
    (prun Tryz.prog (Instr.index 9 s0 (Value.int IntKind.i64 1))).bind fun v7 =>
    (prun Tryz.prog (convert 5 12 v7)).bind fun v8 =>
    (prun Tryz.prog (do eqGuard .shl 12 (Operand.tmp 8) (Operand.const (Value.int IntKind.u64 8)) v8 (Value.int IntKind.u64 8); binOp .shl 12 v8 (Value.int IntKind.u64 8))).bind fun v9 =>
    (prun Tryz.prog (do eqGuard .or 12 (Operand.tmp 5) (Operand.tmp 9) v5 v9; binOp .or 12 v5 v9)).bind fun v10 =>
    (prun Tryz.prog (Instr.index 9 s0 (Value.int IntKind.i64 2))).bind fun v12 =>
    (prun Tryz.prog (convert 5 12 v12)).bind fun v13 =>
    (prun Tryz.prog (do eqGuard .shl 12 (Operand.tmp 13) (Operand.const (Value.int IntKind.u64 16)) v13 (Value.int IntKind.u64 16); binOp .shl 12 v13 (Value.int IntKind.u64 16))).bind fun v14 =>
    (prun Tryz.prog (do eqGuard .or 12 (Operand.tmp 10) (Operand.tmp 14) v10 v14; binOp .or 12 v10 v14)).bind fun v15 =>
    (prun Tryz.prog (Instr.index 9 s0 (Value.int IntKind.i64 3))).bind fun v17 =>
    (prun Tryz.prog (convert 5 12 v17)).bind fun v18 =>
    (prun Tryz.prog (do eqGuard .shl 12 (Operand.tmp 18) (Operand.const (Value.int IntKind.u64 24)) v18 (Value.int IntKind.u64 24); binOp .shl 12 v18 (Value.int IntKind.u64 24))).bind fun v19 =>
    (prun Tryz.prog (do eqGuard .or 12 (Operand.tmp 15) (Operand.tmp 19) v15 v19; binOp .or 12 v15 v19)).bind fun v20 =>
    some (Res.ret [v20] W0.drew)
  else
  (prun Tryz.prog (Instr.index 9 s0 (Value.int IntKind.i64 0))).bind fun v22 =>
  (prun Tryz.prog (convert 5 159 v22)).bind fun v23 =>
  (prun Tryz.prog (Instr.index 9 s0 (Value.int IntKind.i64 1))).bind fun v25 =>
  (prun Tryz.prog (convert 5 159 v25)).bind fun v26 =>
  (prun Tryz.prog (do eqGuard .shl 159 (Operand.tmp 26) (Operand.const (Value.int IntKind.u64 8)) v26 (Value.int IntKind.u64 8); binOp .shl 159 v26 (Value.int IntKind.u64 8))).bind fun v27 =>
  (prun Tryz.prog (do eqGuard .or 159 (Operand.tmp 23) (Operand.tmp 27) v23 v27; binOp .or 159 v23 v27)).bind fun v28 =>
  (prun Tryz.prog (Instr.index 9 s0 (Value.int IntKind.i64 2))).bind fun v30 =>
  (prun Tryz.prog (convert 5 159 v30)).bind fun v31 =>
  (prun Tryz.prog (do eqGuard .shl 159 (Operand.tmp 31) (Operand.const (Value.int IntKind.u64 16)) v31 (Value.int IntKind.u64 16); binOp .shl 159 v31 (Value.int IntKind.u64 16))).bind fun v32 =>
  (prun Tryz.prog (do eqGuard .or 159 (Operand.tmp 28) (Operand.tmp 32) v28 v32; binOp .or 159 v28 v32)).bind fun v33 =>
  (prun Tryz.prog (Instr.index 9 s0 (Value.int IntKind.i64 3))).bind fun v35 =>
  (prun Tryz.prog (convert 5 159 v35)).bind fun v36 =>
  (prun Tryz.prog (do eqGuard .shl 159 (Operand.tmp 36) (Operand.const (Value.int IntKind.u64 24)) v36 (Value.int IntKind.u64 24); binOp .shl 159 v36 (Value.int IntKind.u64 24))).bind fun v37 =>
  (prun Tryz.prog (do eqGuard .or 159 (Operand.tmp 33) (Operand.tmp 37) v33 v37; binOp .or 159 v33 v37)).bind fun v38 =>
  (prun Tryz.prog (Instr.index 9 s0 (Value.int IntKind.i64 4))).bind fun v40 =>
  (prun Tryz.prog (convert 5 159 v40)).bind fun v41 =>
  (prun Tryz.prog (do eqGuard .shl 159 (Operand.tmp 41) (Operand.const (Value.int IntKind.u64 32)) v41 (Value.int IntKind.u64 32); binOp .shl 159 v41 (Value.int IntKind.u64 32))).bind fun v42 =>
  (prun Tryz.prog (do eqGuard .or 159 (Operand.tmp 38) (Operand.tmp 42) v38 v42; binOp .or 159 v38 v42)).bind fun v43 =>
  (prun Tryz.prog (Instr.index 9 s0 (Value.int IntKind.i64 5))).bind fun v45 =>
  (prun Tryz.prog (convert 5 159 v45)).bind fun v46 =>
  (prun Tryz.prog (do eqGuard .shl 159 (Operand.tmp 46) (Operand.const (Value.int IntKind.u64 40)) v46 (Value.int IntKind.u64 40); binOp .shl 159 v46 (Value.int IntKind.u64 40))).bind fun v47 =>
  (prun Tryz.prog (do eqGuard .or 159 (Operand.tmp 43) (Operand.tmp 47) v43 v47; binOp .or 159 v43 v47)).bind fun v48 =>
  (prun Tryz.prog (Instr.index 9 s0 (Value.int IntKind.i64 6))).bind fun v50 =>
  (prun Tryz.prog (convert 5 159 v50)).bind fun v51 =>
  (prun Tryz.prog (do eqGuard .shl 159 (Operand.tmp 51) (Operand.const (Value.int IntKind.u64 48)) v51 (Value.int IntKind.u64 48); binOp .shl 159 v51 (Value.int IntKind.u64 48))).bind fun v52 =>
  (prun Tryz.prog (do eqGuard .or 159 (Operand.tmp 48) (Operand.tmp 52) v48 v52; binOp .or 159 v48 v52)).bind fun v53 =>
  (prun Tryz.prog (Instr.index 9 s0 (Value.int IntKind.i64 7))).bind fun v55 =>
  (prun Tryz.prog (convert 5 159 v55)).bind fun v56 =>
  (prun Tryz.prog (do eqGuard .shl 159 (Operand.tmp 56) (Operand.const (Value.int IntKind.u64 56)) v56 (Value.int IntKind.u64 56); binOp .shl 159 v56 (Value.int IntKind.u64 56))).bind fun v57 =>
  (prun Tryz.prog (do eqGuard .or 159 (Operand.tmp 53) (Operand.tmp 57) v53 v57; binOp .or 159 v53 v57)).bind fun v58 =>
  some (Res.ret [v58] W0.drew)).bind Res.done
theorem f82.eq (call dfr : CallF) (s0 : Value) (W0 : World) : aFun Tryz.prog call dfr Tryz.f82 f82.ann (ofArgs #[s0]) W0 = f82 call s0 W0 := by kernel_rfl

/-- dailies/cuts.fades -/
def f83.ann : Ann := (.s .z (.s (.s .z (.c (.s .z .z) .z)) (.s (.s .z (.c (.s .z .z) .z)) (.s .z (.s .z .z)))))
noncomputable def f83 (call : CallF) (ahead0 : Value) (e1 : Value) (W0 : World) : Option (Value × World) :=
  ((erun Tryz.prog (Instr.box 51 e1) W0).bind fun r3 =>
  (prun Tryz.prog (Instr.fieldAt 51 r3.1 3)).bind fun v6 =>
  (rrun Tryz.prog (Instr.loadAt 3 v6) r3.2).bind fun v7 =>
  (bin .eql v7 (Value.int IntKind.i64 0)).bind fun v8 =>
  (asB v8).bind fun c8 =>
  if c8 then
    some (Res.ret [(Value.bool true)] r3.2)
  else
  ((prun Tryz.prog (Instr.fieldAt 51 r3.1 3)).bind fun v9 =>
  some (v9, r3.2.drew)).bind fun r9 =>
  ((rrun Tryz.prog (Instr.loadAt 3 r9.1) r9.2).bind fun v10 =>
  some (v10, r9.2)).bind fun r10 =>
  ((bin .lss r10.1 (Value.int IntKind.i64 0)).bind fun v11 =>
  some (v11, r10.2)).bind fun r11 =>
  (if wantedV false r11.1 = true then (prun Tryz.prog (Instr.fieldAt 51 r3.1 3)).bind fun v13 =>
  some (v13, r11.2) else some (undef, r11.2)).bind fun r13 =>
  (if wantedV false r11.1 = true then (rrun Tryz.prog (Instr.loadAt 3 r13.1) r13.2).bind fun v14 =>
  some (v14, r13.2) else some (undef, r13.2)).bind fun r14 =>
  (if wantedV false r11.1 = true then (bin .gtr r14.1 (Value.int IntKind.i64 100)).bind fun v15 =>
  some (v15, r14.2) else some (undef, r14.2)).bind fun r15 =>
  ((pickV r11.1 (Value.bool true) r15.1).bind fun v16 =>
  some (v16, r15.2)).bind fun r16 =>
  (if wantedV false r16.1 = true then some (ahead0, r16.2) else some (undef, r16.2)).bind fun r18 =>
  (if wantedV false r16.1 = true then (prun Tryz.prog (Builtin.len_ #[28] 3 #[r18.1])).bind fun v19 =>
  some (v19, r18.2) else some (undef, r18.2)).bind fun r19 =>
  (if wantedV false r16.1 = true then (bin .eql r19.1 (Value.int IntKind.i64 0)).bind fun v20 =>
  some (v20, r19.2) else some (undef, r19.2)).bind fun r20 =>
  ((pickV r16.1 (Value.bool true) r20.1).bind fun v21 =>
  some (v21, r20.2)).bind fun r21 =>
  (if wantedV false r21.1 = true then (prun Tryz.prog (Instr.fieldAt 51 r3.1 3)).bind fun v23 =>
  some (v23, r21.2) else some (undef, r21.2)).bind fun r23 =>
  (if wantedV false r21.1 = true then (rrun Tryz.prog (Instr.loadAt 3 r23.1) r23.2).bind fun v24 =>
  some (v24, r23.2) else some (undef, r23.2)).bind fun r24 =>
  (if wantedV false r21.1 = true then (rrun Tryz.prog (Instr.loadAt 51 r3.1) r24.2).bind fun v25 =>
  some (v25, r24.2) else some (undef, r24.2)).bind fun r25 =>
  (if wantedV false r21.1 = true then (call 46 #[r25.1] r25.2).bind fun r26_1 =>
  some (r26_1.1, r26_1.2) else some (undef, r25.2)).bind fun r26 =>
  (if wantedV false r21.1 = true then (bin .gtr r24.1 r26.1).bind fun v27 =>
  some (v27, r26.2) else some (undef, r26.2)).bind fun r27 =>
  ((pickV r21.1 (Value.bool true) r27.1).bind fun v28 =>
  some (v28, r27.2)).bind fun r28 =>
  chkThen (((if wantedV false r21.1 = true then ((rrun Tryz.prog (Instr.loadAt 3 r23.1) r25.2).bind fun v24_1 => some v24_1) = some r24.1 else True) ∧ (if wantedV false r21.1 = true then ((rrun Tryz.prog (Instr.loadAt 3 r23.1) r26.2).bind fun v24_2 => some v24_2) = some r24.1 else True)) ∧ True)
  ((asB r28.1).bind fun c28 =>
  if c28 then
    some (Res.ret [(Value.bool false)] r28.2)
  else
  (prun Tryz.prog (Builtin.len_ #[28] 3 #[ahead0])).bind fun v31 =>
  (bin .sub v31 (Value.int IntKind.i64 1)).bind fun v32 =>
  (prun Tryz.prog (Instr.indexAt 28 ahead0 v32)).bind fun v33 =>
  (rrun Tryz.prog (Instr.loadAt 51 v33) r28.2).bind fun v34 =>
  (erun Tryz.prog (Instr.alloc 51 true (.tuple #[])) r28.2).bind fun r5 =>
  (erun Tryz.prog (Instr.storeAt 51 r5.1 v34) r5.2).bind fun r =>
  ((prun Tryz.prog (Instr.fieldAt 51 r3.1 3)).bind fun v35 =>
  some (v35, r.2.drew)).bind fun r35 =>
  ((rrun Tryz.prog (Instr.loadAt 3 r35.1) r35.2).bind fun v36 =>
  some (v36, r35.2)).bind fun r36 =>
  ((rrun Tryz.prog (Instr.loadAt 51 r5.1) r36.2).bind fun v37 =>
  some (v37, r36.2)).bind fun r37 =>
  ((call 46 #[r37.1] r37.2).bind fun r38_1 =>
  some (r38_1.1, r38_1.2)).bind fun r38 =>
  ((prun Tryz.prog (Instr.fieldAt 51 r5.1 3)).bind fun v39 =>
  some (v39, r38.2)).bind fun r39 =>
  ((rrun Tryz.prog (Instr.loadAt 3 r39.1) r39.2).bind fun v40 =>
  some (v40, r39.2)).bind fun r40 =>
  ((bin .sub r38.1 r40.1).bind fun v41 =>
  some (v41, r40.2)).bind fun r41 =>
  ((bin .leq r36.1 r41.1).bind fun v42 =>
  some (v42, r41.2)).bind fun r42 =>
  chkThen ((((rrun Tryz.prog (Instr.loadAt 3 r35.1) r37.2).bind fun v36_1 => some v36_1) = some r36.1 ∧ ((rrun Tryz.prog (Instr.loadAt 3 r35.1) r38.2).bind fun v36_2 => some v36_2) = some r36.1) ∧ (((rrun Tryz.prog (Instr.loadAt 3 r39.1) r37.2).bind fun v40_1 => some v40_1) = some r40.1 ∧ ((rrun Tryz.prog (Instr.loadAt 3 r39.1) r38.2).bind fun v40_2 => some v40_2) = some r40.1) ∧ True)
  (some (Res.ret [r42.1] r42.2)))).bind Res.done
theorem f83.eq (call dfr : CallF) (ahead0 : Value) (e1 : Value) (W0 : World) : aFun Tryz.prog call dfr Tryz.f83 f83.ann (ofArgs #[ahead0, e1]) W0 = f83 call ahead0 e1 W0 := by kernel_rfl

/-- dailies/dailiesref18.asked -/
def f84.ann : Ann := (.s .z (.s .z (.s (.s .z (.c (.s .z .z) .z)) (.s (.s .z (.c (.s .z .z) .z)) (.s .z .z)))))
noncomputable def f84 (call : CallF) (r0 : Value) (n1 : Value) (W0 : World) : Option (Value × World) :=
  ((call 107 #[r0] W0).bind fun r9 =>
  (prun Tryz.prog (Instr.extract r9.1 0)).bind fun v10 =>
  (prun Tryz.prog (Instr.extract r9.1 1)).bind fun v11 =>
  (bin .neq v11 (Value.int IntKind.i64 0)).bind fun v13 =>
  (asB v13).bind fun c13 =>
  if c13 then
    some (Res.ret [v11] r9.2)
  else
  (bin .lss n1 (Value.int IntKind.i64 0)).bind fun v16 =>
  (asB v16).bind fun b17 =>
  (if b17 = false then (bin .geq n1 v10).bind fun v20 =>
    some (v20, r9.2)
   else some ((Value.bool true), r9.2)).bind fun r21 =>
  (asB r21.1).bind fun c21 =>
  if c21 then
    some (Res.ret [(Value.int IntKind.i64 184)] r21.2)
  else
  some (Res.ret [(Value.int IntKind.i64 0)] r21.2)).bind Res.done
theorem f84.eq (call dfr : CallF) (r0 : Value) (n1 : Value) (W0 : World) : aFun Tryz.prog call dfr Tryz.f84 f84.ann (ofArgs #[r0, n1]) W0 = f84 call r0 n1 W0 := by kernel_rfl

end Go.Sh.YtkghbcadnbojgaaGreatDoor
