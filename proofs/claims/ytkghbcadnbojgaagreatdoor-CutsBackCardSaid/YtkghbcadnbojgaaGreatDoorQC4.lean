/- own work -/
import Derived.Test.YtkghbcadnbojgaaGreatDoorProg
import Derived.KernelRfl
import Derived.Test.YtkghbcadnbojgaaGreatDoorQC3
namespace Go.Sh.YtkghbcadnbojgaaGreatDoor
open Go Go.Proofs
set_option linter.unusedVariables false
set_option maxRecDepth 100000

/-- dailies/dailieslaw19.CutsBack -/
def f7.ann : Ann := (.s .z (.s .z (.s (.s .z (.c (.s .z .z) .z)) (.s .z (.s .z (.s (.s .z (.c (.s .z .z) .z)) (.s (.s .z (.j [1] (.s .z (.s .z (.s (.s .z (.c (.s .z .z) .z)) (.s .z (.s .z (.c (.s .z .z) .z)))))) (.s .z (.s .z (.c (.s .z .z) .z))))) (.s .z (.s (.s .z (.c (.s .z .z) .z)) (.s .z (.s (.s .z (.c (.s .z .z) .z)) (.s .z (.s (.s .z (.c (.s .z .z) .z)) (.s .z (.s .z (.s .z .z))))))))))))))))
noncomputable def f7 (call : CallF) (l0 : Value) (s1 : Value) (W0 : World) : Option (Value × World) :=
  ((erun Tryz.prog (Instr.box 30 l0) W0).bind fun r2 =>
  (call 8 #[] r2.2).bind fun r23 =>
  (prun Tryz.prog (Op.unary .not r23.1)).bind fun v25 =>
  (asB v25).bind fun c25 =>
  if c25 then
    some (Res.ret [(Value.bool false)] r23.2)
  else
  (rrun Tryz.prog (Instr.loadAt 30 r2.1) r23.2).bind fun v27 =>
  (call 21 #[v27] r23.2).bind fun r28 =>
  (prun Tryz.prog (Instr.extract r28.1 0)).bind fun v29 =>
  (prun Tryz.prog (Instr.extract r28.1 1)).bind fun v30 =>
  (rrun Tryz.prog (Instr.loadAt 30 r2.1) r28.2).bind fun v31 =>
  (call 15 #[v31] r28.2).bind fun r32 =>
  (rrun Tryz.prog (do eqGuard .neq 32 (Operand.tmp 33) (Operand.const Value.nilIface) r32.1 Value.nilIface; binOp .neq 32 r32.1 Value.nilIface) r32.2).bind fun v34 =>
  (asB v34).bind fun c34 =>
  if c34 then
    (rrun Tryz.prog (do eqGuard .neq 32 (Operand.tmp 35) (Operand.const Value.nilIface) v30 Value.nilIface; binOp .neq 32 v30 Value.nilIface) r32.2).bind fun v36 =>
    (asB v36).bind fun b37 =>
    (if b37 = true then (prun Tryz.prog (do eqGuard .eql 9 (Operand.tmp 38) (Operand.const (Value.string { data := #[] })) v29 (Value.string { data := #[] }); binOp .eql 9 v29 (Value.string { data := #[] }))).bind fun v39 =>
      some (v39, r32.2)
     else some ((Value.bool false), r32.2)).bind fun r40 =>
    some (Res.ret [r40.1] r40.2)
  else
  (rrun Tryz.prog (do eqGuard .eql 32 (Operand.tmp 41) (Operand.const Value.nilIface) v30 Value.nilIface; binOp .eql 32 v30 Value.nilIface) r32.2).bind fun v42 =>
  (asB v42).bind fun c42 =>
  (if c42 then
    (call 9 #[v29] r32.2).bind fun r45 =>
    (prun Tryz.prog (Instr.extract r45.1 0)).bind fun v46 =>
    (prun Tryz.prog (Instr.extract r45.1 1)).bind fun v47 =>
    (erun Tryz.prog (Instr.alloc 30 true (.tuple #[])) r45.2).bind fun r9 =>
    (erun Tryz.prog (Instr.storeAt 30 r9.1 v46) r9.2).bind fun r =>
    (rrun Tryz.prog (Instr.loadAt 30 r9.1) r.2).bind fun v48 =>
    (rrun Tryz.prog (Instr.loadAt 30 r2.1) r.2).bind fun v49 =>
    (call 11 #[v48, v49] r.2).bind fun r50 =>
    (rrun Tryz.prog (do eqGuard .neq 32 (Operand.tmp 51) (Operand.const Value.nilIface) v47 Value.nilIface; binOp .neq 32 v47 Value.nilIface) r50.2).bind fun v52 =>
    (asB v52).bind fun b53 =>
    (if b53 = false then (prun Tryz.prog (Op.unary .not r50.1)).bind fun v55 =>
      some (v55, r50.2)
     else some ((Value.bool true), r50.2)).bind fun r56 =>
    (asB r56.1).bind fun c56 =>
    if c56 then
      some (Res.ret [(Value.bool false)] r56.2)
    else
    (rrun Tryz.prog (Instr.loadAt 30 r9.1) r56.2).bind fun v58 =>
    (call 21 #[v58] r56.2).bind fun r59 =>
    (prun Tryz.prog (Instr.extract r59.1 0)).bind fun v60 =>
    (prun Tryz.prog (Instr.extract r59.1 1)).bind fun v61 =>
    (rrun Tryz.prog (do eqGuard .neq 32 (Operand.tmp 62) (Operand.const Value.nilIface) v61 Value.nilIface; binOp .neq 32 v61 Value.nilIface) r59.2).bind fun v63 =>
    (asB v63).bind fun b64 =>
    (if b64 = false then (prun Tryz.prog (do eqGuard .neq 9 (Operand.tmp 65) (Operand.tmp 66) v60 v29; binOp .neq 9 v60 v29)).bind fun v67 =>
      some (v67, r59.2)
     else some ((Value.bool true), r59.2)).bind fun r68 =>
    (asB r68.1).bind fun c68 =>
    if c68 then
      some (Res.ret [(Value.bool false)] r68.2)
    else
    some (Res.norm [s1] r68.2)
   else
    (prun Tryz.prog (Instr.makeInterface 35 (Value.int IntKind.i64 191))).bind fun v70 =>
    (call 22 #[v30, v70] r32.2).bind fun r71 =>
    (prun Tryz.prog (Op.unary .not r71.1)).bind fun v73 =>
    (asB v73).bind fun c73 =>
    if c73 then
      some (Res.ret [(Value.bool false)] r71.2)
    else
    some (Res.norm [s1] r71.2)).bind fun (r : Res) => r.cont fun vs W1 =>
  let s1_1 := nth vs 0
  (call 9 #[s1_1] W1).bind fun r76 =>
  (prun Tryz.prog (Instr.extract r76.1 0)).bind fun v77 =>
  (prun Tryz.prog (Instr.extract r76.1 1)).bind fun v78 =>
  (erun Tryz.prog (Instr.alloc 30 true (.tuple #[])) r76.2).bind fun r15 =>
  (erun Tryz.prog (Instr.storeAt 30 r15.1 v77) r15.2).bind fun r_1 =>
  (rrun Tryz.prog (do eqGuard .neq 32 (Operand.tmp 79) (Operand.const Value.nilIface) v78 Value.nilIface; binOp .neq 32 v78 Value.nilIface) r_1.2).bind fun v80 =>
  (asB v80).bind fun c80 =>
  if c80 then
    (prun Tryz.prog (Instr.fieldAt 30 r15.1 2)).bind fun v81 =>
    (rrun Tryz.prog (Instr.loadAt 28 v81) r_1.2).bind fun v82 =>
    (prun Tryz.prog (Builtin.len_ #[28] 3 #[v82])).bind fun v83 =>
    (bin .eql v83 (Value.int IntKind.i64 0)).bind fun v84 =>
    (asB v84).bind fun b85 =>
    (if b85 = true then (prun Tryz.prog (Instr.fieldAt 30 r15.1 0)).bind fun v86 =>
      (rrun Tryz.prog (Instr.loadAt 9 v86) r_1.2).bind fun v87 =>
      (prun Tryz.prog (do eqGuard .eql 9 (Operand.tmp 87) (Operand.const (Value.string { data := #[] })) v87 (Value.string { data := #[] }); binOp .eql 9 v87 (Value.string { data := #[] }))).bind fun v88 =>
      some (v88, r_1.2)
     else some ((Value.bool false), r_1.2)).bind fun r89 =>
    (asB r89.1).bind fun b90 =>
    (if b90 = true then (prun Tryz.prog (Instr.fieldAt 30 r15.1 1)).bind fun v91 =>
      (rrun Tryz.prog (Instr.loadAt 27 v91) r89.2).bind fun v92 =>
      (bin .eql v92 (Value.int IntKind.i64 0)).bind fun v93 =>
      some (v93, r89.2)
     else some ((Value.bool false), r89.2)).bind fun r94 =>
    some (Res.ret [r94.1] r94.2)
  else
  (rrun Tryz.prog (Instr.loadAt 30 r15.1) r_1.2).bind fun v95 =>
  (call 15 #[v95] r_1.2).bind fun r96 =>
  (rrun Tryz.prog (do eqGuard .neq 32 (Operand.tmp 97) (Operand.const Value.nilIface) r96.1 Value.nilIface; binOp .neq 32 r96.1 Value.nilIface) r96.2).bind fun v98 =>
  (asB v98).bind fun c98 =>
  if c98 then
    some (Res.ret [(Value.bool false)] r96.2)
  else
  (rrun Tryz.prog (Instr.loadAt 30 r15.1) r96.2).bind fun v100 =>
  (call 21 #[v100] r96.2).bind fun r101 =>
  (prun Tryz.prog (Instr.extract r101.1 0)).bind fun v102 =>
  (prun Tryz.prog (Instr.extract r101.1 1)).bind fun v103 =>
  (rrun Tryz.prog (do eqGuard .neq 32 (Operand.tmp 104) (Operand.const Value.nilIface) v103 Value.nilIface; binOp .neq 32 v103 Value.nilIface) r101.2).bind fun v105 =>
  (asB v105).bind fun c105 =>
  if c105 then
    (prun Tryz.prog (Instr.makeInterface 35 (Value.int IntKind.i64 191))).bind fun v107 =>
    (call 22 #[v103, v107] r101.2).bind fun r108 =>
    some (Res.ret [r108.1] r108.2)
  else
  (call 9 #[v102] r101.2).bind fun r111 =>
  (prun Tryz.prog (Instr.extract r111.1 0)).bind fun v112 =>
  (prun Tryz.prog (Instr.extract r111.1 1)).bind fun v113 =>
  (erun Tryz.prog (Instr.alloc 30 true (.tuple #[])) r111.2).bind fun r20 =>
  (erun Tryz.prog (Instr.storeAt 30 r20.1 v112) r20.2).bind fun r_2 =>
  (rrun Tryz.prog (Instr.loadAt 30 r20.1) r_2.2).bind fun v114 =>
  (rrun Tryz.prog (Instr.loadAt 30 r15.1) r_2.2).bind fun v115 =>
  (call 11 #[v114, v115] r_2.2).bind fun r116 =>
  (rrun Tryz.prog (do eqGuard .eql 32 (Operand.tmp 117) (Operand.const Value.nilIface) v113 Value.nilIface; binOp .eql 32 v113 Value.nilIface) r116.2).bind fun v118 =>
  (asB v118).bind fun b119 =>
  (if b119 = true then some (r116.1, r116.2)
   else some ((Value.bool false), r116.2)).bind fun r121 =>
  some (Res.ret [r121.1] r121.2)).bind Res.done
theorem f7.eq (call dfr : CallF) (l0 : Value) (s1 : Value) (W0 : World) : aFun Tryz.prog call dfr Tryz.f7 f7.ann (ofArgs #[l0, s1]) W0 = f7 call l0 s1 W0 := by kernel_rfl

/-- dailies/cuts.Parse -/
def f9.ann : Ann := (.s .z (.s (.s .z (.c (.s .z .z) .z)) (.s (.s .z (.s .z (.c (.s .z .z) .z))) (.s .z (.s .z (.s (.s .z (.b [0, 2, 5, 6] (.l [0, 2, 5, 6, 7] (.s (.s .z (.c .z .z)) (.b [0, 2, 5, 6, 7] (.s .z (.s (.s .z (.j [0, 2, 5, 6, 7, 8] .z .z)) (.s .z (.s .z (.s .z (.s (.s .z (.c .z .z)) (.s .z (.s (.s .z (.j [0, 2, 5, 6, 7, 10] (.s .z .z) .z)) (.s .z (.c (.s .z .z) .z))))))))))))))) (.s (.s .z (.c (.s .z .z) .z)) (.s .z .z))))))))
noncomputable def f9.l0 (call : CallF) (vs : List Value) (W1 : World) : Option Res :=
  let s0_1 := nth vs 0
  let v2 := nth vs 1
  let l5 := nth vs 2
  let begun6 := nth vs 3
  let at7 := nth vs 4
  (prun Tryz.prog (Builtin.len_ #[9] 3 #[s0_1])).bind fun v25 =>
  (bin .lss at7 v25).bind fun v26 =>
  (asB v26).bind fun c26 =>
  if c26 then
    ((prun Tryz.prog (Instr.sliceAt 9 s0_1 (some at7) none none)).bind fun v30 =>
    (call 25 #[v30, (Value.int IntKind.u8 10)] W1).bind fun r31 =>
    (bin .add at7 r31.1).bind fun v32 =>
    (bin .lss v32 at7).bind fun v35 =>
    (asB v35).bind fun c35 =>
    (if c35 then
      (prun Tryz.prog (Builtin.len_ #[9] 3 #[s0_1])).bind fun v37 =>
      some (Res.norm [s0_1, v2, l5, begun6, at7, v37] r31.2)
     else
      some (Res.norm [s0_1, v2, l5, begun6, at7, v32] r31.2)).bind fun (r : Res) => r.cont fun vs_1 W2 =>
    let s0_2 := nth vs_1 0
    let v2_1 := nth vs_1 1
    let l5_1 := nth vs_1 2
    let begun6_1 := nth vs_1 3
    let at7_1 := nth vs_1 4
    let to8 := nth vs_1 5
    (prun Tryz.prog (Instr.build 64 #[])).bind fun v38 =>
    (erun Tryz.prog (Instr.box 64 v38) W2).bind fun r39 =>
    (call 26 #[s0_2, at7_1, to8] r39.2).bind fun r46 =>
    (prun Tryz.prog (Instr.extract r46.1 0)).bind fun v47 =>
    (prun Tryz.prog (Instr.extract r46.1 1)).bind fun v48 =>
    (nilV Tryz.prog r39.1).bind fun v49 =>
    (prun Tryz.prog (Instr.fieldAt 64 v49 0)).bind fun v50 =>
    (erun Tryz.prog (Instr.storeAt 62 v50 v47) r46.2).bind fun r_2 =>
    (nilV Tryz.prog r39.1).bind fun v51 =>
    (prun Tryz.prog (Instr.fieldAt 64 v51 1)).bind fun v52 =>
    (erun Tryz.prog (Instr.storeAt 3 v52 v48) r_2.2).bind fun r_3 =>
    (bin .add to8 (Value.int IntKind.i64 1)).bind fun v54 =>
    (nilV Tryz.prog r39.1).bind fun v56 =>
    (prun Tryz.prog (Instr.fieldAt 64 v56 0)).bind fun v57 =>
    (rrun Tryz.prog (Instr.loadAt 62 v57) r_3.2).bind fun v58 =>
    (prun Tryz.prog (Builtin.len_ #[62] 3 #[v58])).bind fun v59 =>
    (bin .eql v59 (Value.int IntKind.i64 0)).bind fun v60 =>
    (asB v60).bind fun c60 =>
    if c60 then
      some (Res.exit 1 [s0_2, v2_1, l5_1, begun6_1, v54] r_3.2)
    else
    (prun Tryz.prog (Op.unary .not begun6_1)).bind fun v62 =>
    (asB v62).bind fun c62 =>
    (if c62 then
      (call 27 #[r39.1] r_3.2).bind fun r65 =>
      (prun Tryz.prog (Instr.extract r65.1 0)).bind fun v66 =>
      (prun Tryz.prog (Instr.extract r65.1 1)).bind fun v67 =>
      (erun Tryz.prog (Instr.storeAt 30 l5_1 v66) r65.2).bind fun r_4 =>
      some (Res.norm [s0_2, v2_1, l5_1, (Value.bool true), v54, v67] r_4.2)
     else
      (call 28 #[r39.1, l5_1] r_3.2).bind fun r69 =>
      some (Res.norm [s0_2, v2_1, l5_1, begun6_1, v54, r69.1] r69.2)).bind fun (r : Res) => r.cont fun vs_2 W3 =>
    let s0_3 := nth vs_2 0
    let v2_2 := nth vs_2 1
    let l5_2 := nth vs_2 2
    let begun6_2 := nth vs_2 3
    let at7_2 := nth vs_2 4
    let err10 := nth vs_2 5
    (rrun Tryz.prog (do eqGuard .neq 32 (Operand.tmp 70) (Operand.const Value.nilIface) err10 Value.nilIface; binOp .neq 32 err10 Value.nilIface) W3).bind fun v71 =>
    (asB v71).bind fun c71 =>
    if c71 then
      (prun Tryz.prog (Instr.build 30 #[])).bind fun v72 =>
      (erun Tryz.prog (Instr.storeAt 30 v2_2 v72) W3).bind fun r_5 =>
      some (Res.ret [v2_2, err10] r_5.2)
    else
    some (Res.norm [s0_3, v2_2, l5_2, begun6_2, at7_2] W3)).bind fun (r : Res) => (r.unblock 1).cont fun vs_3 W4 =>
    let s0_4 := nth vs_3 0
    let v2_3 := nth vs_3 1
    let l5_3 := nth vs_3 2
    let begun6_3 := nth vs_3 3
    let at7_3 := nth vs_3 4
    some (Res.norm [s0_4, v2_3, l5_3, begun6_3, at7_3] W4)
  else
  some (Res.exit 0 [s0_1, v2, l5, begun6] W1)
noncomputable def f9 (call : CallF) (s0 : Value) (W0 : World) : Option (Value × World) :=
  ((erun Tryz.prog (Instr.alloc 30 true (.tuple #[])) W0).bind fun r2 =>
  (prun Tryz.prog (Builtin.len_ #[9] 3 #[s0])).bind fun v12 =>
  (bin .gtr v12 (Value.int IntKind.i64 20000)).bind fun v13 =>
  (asB v13).bind fun c13 =>
  if c13 then
    (prun Tryz.prog (Instr.build 30 #[])).bind fun v14 =>
    (call 23 #[(Value.int IntKind.i64 0), (Value.int IntKind.i64 191)] r2.2).bind fun r15 =>
    (erun Tryz.prog (Instr.storeAt 30 r2.1 v14) r15.2).bind fun r =>
    some (Res.ret [r2.1, r15.1] r.2)
  else
  (call 24 #[s0] r2.2).bind fun r17 =>
  (bin .geq r17.1 (Value.int IntKind.i64 0)).bind fun v19 =>
  (asB v19).bind fun c19 =>
  if c19 then
    (prun Tryz.prog (Instr.build 30 #[])).bind fun v20 =>
    (call 23 #[r17.1, (Value.int IntKind.i64 192)] r17.2).bind fun r22 =>
    (erun Tryz.prog (Instr.storeAt 30 r2.1 v20) r22.2).bind fun r_1 =>
    some (Res.ret [r2.1, r22.1] r_1.2)
  else
  (erun Tryz.prog (Instr.alloc 30 true (.tuple #[])) r17.2).bind fun r5 =>
  (iter (f9.l0 call) [s0, r2.1, r5.1, (Value.bool false), (Value.int IntKind.i64 0)] r5.2).bind fun (r : Res) => (r.unblock 0).cont fun vs_4 W5 =>
  let s0_5 := nth vs_4 0
  let v2_4 := nth vs_4 1
  let l5_4 := nth vs_4 2
  let begun6_4 := nth vs_4 3
  (prun Tryz.prog (Op.unary .not begun6_4)).bind fun v75 =>
  (asB v75).bind fun c75 =>
  if c75 then
    (prun Tryz.prog (Instr.build 30 #[])).bind fun v76 =>
    (prun Tryz.prog (Builtin.len_ #[9] 3 #[s0_5])).bind fun v78 =>
    (call 23 #[v78, (Value.int IntKind.i64 193)] W5).bind fun r79 =>
    (erun Tryz.prog (Instr.storeAt 30 v2_4 v76) r79.2).bind fun r_6 =>
    some (Res.ret [v2_4, r79.1] r_6.2)
  else
  (rrun Tryz.prog (Instr.loadAt 30 l5_4) W5).bind fun v80 =>
  (erun Tryz.prog (Instr.storeAt 30 v2_4 v80) W5).bind fun r_7 =>
  some (Res.ret [v2_4, Value.nilIface] r_7.2)).bind (Res.doneR Tryz.prog [.cell 2 30, .tmp 3])
theorem f9.eq (call dfr : CallF) (s0 : Value) (W0 : World) : aFun Tryz.prog call dfr Tryz.f9 f9.ann (ofArgs #[s0]) W0 = f9 call s0 W0 := by kernel_rfl

/-- dailies/dailieslaw19.same -/
def f11.ann : Ann := (.s .z (.s .z (.s .z .z)))
noncomputable def f11 (call : CallF) (a0 : Value) (b1 : Value) (W0 : World) : Option (Value × World) :=
  ((erun Tryz.prog (Instr.box 30 a0) W0).bind fun r2 =>
  (erun Tryz.prog (Instr.box 30 b1) r2.2).bind fun r3 =>
  (prun Tryz.prog (Instr.fieldAt 30 r2.1 2)).bind fun v6 =>
  (rrun Tryz.prog (Instr.loadAt 28 v6) r3.2).bind fun v7 =>
  (prun Tryz.prog (Instr.fieldAt 30 r3.1 2)).bind fun v8 =>
  (rrun Tryz.prog (Instr.loadAt 28 v8) r3.2).bind fun v9 =>
  (call 33 #[v7, v9] r3.2).bind fun r10 =>
  (asB r10.1).bind fun b12 =>
  (if b12 = true then (prun Tryz.prog (Instr.fieldAt 30 r2.1 0)).bind fun v13 =>
    (rrun Tryz.prog (Instr.loadAt 9 v13) r10.2).bind fun v14 =>
    (prun Tryz.prog (Instr.fieldAt 30 r3.1 0)).bind fun v15 =>
    (rrun Tryz.prog (Instr.loadAt 9 v15) r10.2).bind fun v16 =>
    (prun Tryz.prog (do eqGuard .eql 9 (Operand.tmp 14) (Operand.tmp 16) v14 v16; binOp .eql 9 v14 v16)).bind fun v17 =>
    some (v17, r10.2)
   else some ((Value.bool false), r10.2)).bind fun r18 =>
  (asB r18.1).bind fun b19 =>
  (if b19 = true then (prun Tryz.prog (Instr.fieldAt 30 r2.1 1)).bind fun v20 =>
    (rrun Tryz.prog (Instr.loadAt 27 v20) r18.2).bind fun v21 =>
    (prun Tryz.prog (Instr.fieldAt 30 r3.1 1)).bind fun v22 =>
    (rrun Tryz.prog (Instr.loadAt 27 v22) r18.2).bind fun v23 =>
    (bin .eql v21 v23).bind fun v24 =>
    some (v24, r18.2)
   else some ((Value.bool false), r18.2)).bind fun r25 =>
  some (Res.ret [r25.1] r25.2)).bind Res.done
theorem f11.eq (call dfr : CallF) (a0 : Value) (b1 : Value) (W0 : World) : aFun Tryz.prog call dfr Tryz.f11 f11.ann (ofArgs #[a0, b1]) W0 = f11 call a0 b1 W0 := by kernel_rfl

/-- dailies/cuts.Check -/
def f15.ann : Ann := (.s .z (.s .z (.s (.b [1, 3] (.s .z (.c (.s .z .z) (.s .z (.c (.s .z .z) (.s .z (.c (.s .z .z) (.s .z (.c (.s .z .z) .z))))))))) (.s (.s .z (.b [] (.l [1, 3, 37, 38, 39] (.s .z (.s (.c .z .z) (.s (.b [1, 3, 37, 38, 39] (.s .z (.s .z (.s .z (.c (.s .z .z) .z))))) .z)))))) (.s .z .z)))))
noncomputable def f15.l0 (call : CallF) (vs_1 : List Value) (W2 : World) : Option Res :=
  let l1_1 := nth vs_1 0
  let day3_1 := nth vs_1 1
  let v37_1 := nth vs_1 2
  let v38_1 := nth vs_1 3
  let v39 := nth vs_1 4
  (bin .lss v39 v38_1).bind fun v40 =>
  (asB v40).bind fun c40 =>
  if c40 then
    ((prun Tryz.prog (Instr.indexAt 28 v37_1 v39)).bind fun v42 =>
    (rrun Tryz.prog (Instr.loadAt 51 v42) W2).bind fun v43 =>
    (erun Tryz.prog (Instr.alloc 51 true (.tuple #[])) W2).bind fun r6 =>
    (erun Tryz.prog (Instr.storeAt 51 r6.1 v43) r6.2).bind fun r =>
    (prun Tryz.prog (Instr.fieldAt 30 l1_1 2)).bind fun v44 =>
    (rrun Tryz.prog (Instr.loadAt 28 v44) r.2.drew).bind fun v45 =>
    (prun Tryz.prog (Instr.sliceAt 28 v45 none (some v39) none)).bind fun v47 =>
    (rrun Tryz.prog (Instr.loadAt 51 r6.1) r.2.drew).bind fun v48 =>
    (call 40 #[v47, v48, day3_1] r.2.drew).bind fun r50 =>
    (bin .neq r50.1 (Value.int IntKind.i64 0)).bind fun v52 =>
    (asB v52).bind fun c52 =>
    if c52 then
      (call 38 #[v39, r50.1] r50.2).bind fun r55 =>
      some (Res.ret [r55.1] r55.2)
    else
    some (Res.norm [l1_1, day3_1, v37_1, v38_1, v39] r50.2)).bind fun (r : Res) => (r.unblock 2).cont fun vs_2 W3 =>
    let l1_2 := nth vs_2 0
    let day3_2 := nth vs_2 1
    let v37_2 := nth vs_2 2
    let v38_2 := nth vs_2 3
    let v39_1 := nth vs_2 4
    (bin .add v39_1 (Value.int IntKind.i64 1)).bind fun v56 =>
    some (Res.norm [l1_2, day3_2, v37_2, v38_2, v56] W3)
  else
  some (Res.exit 1 [] W2)
noncomputable def f15 (call : CallF) (l0 : Value) (W0 : World) : Option (Value × World) :=
  ((erun Tryz.prog (Instr.box 30 l0) W0).bind fun r1 =>
  (prun Tryz.prog (Instr.fieldAt 30 r1.1 1)).bind fun v9 =>
  (rrun Tryz.prog (Instr.loadAt 27 v9) r1.2).bind fun v10 =>
  (call 37 #[v10] r1.2).bind fun r11 =>
  (prun Tryz.prog (Instr.extract r11.1 0)).bind fun v12 =>
  (prun Tryz.prog (Instr.extract r11.1 1)).bind fun v13 =>
  ((prun Tryz.prog (Instr.fieldAt 30 r1.1 0)).bind fun v15 =>
  (rrun Tryz.prog (Instr.loadAt 9 v15) r11.2).bind fun v16 =>
  (prun Tryz.prog (Builtin.len_ #[9] 3 #[v16])).bind fun v17 =>
  (bin .gtr v17 (Value.int IntKind.i64 100)).bind fun v18 =>
  (asB v18).bind fun c14 =>
  if c14 then
    (call 38 #[(Value.int IntKind.i64 (-1)), (Value.int IntKind.i64 191)] r11.2).bind fun r19 =>
    some (Res.ret [r19.1] r19.2)
  else
  (prun Tryz.prog (Instr.fieldAt 30 r1.1 0)).bind fun v21 =>
  (rrun Tryz.prog (Instr.loadAt 9 v21) r11.2).bind fun v22 =>
  (call 39 #[v22] r11.2).bind fun r23 =>
  (prun Tryz.prog (Op.unary .not r23.1)).bind fun v24 =>
  (asB v24).bind fun c20 =>
  if c20 then
    (call 38 #[(Value.int IntKind.i64 (-1)), (Value.int IntKind.i64 192)] r23.2).bind fun r25 =>
    some (Res.ret [r25.1] r25.2)
  else
  (bin .neq v13 (Value.int IntKind.i64 0)).bind fun v28 =>
  (asB v28).bind fun c26 =>
  if c26 then
    (call 38 #[(Value.int IntKind.i64 (-1)), (Value.int IntKind.i64 181)] r23.2).bind fun r29 =>
    some (Res.ret [r29.1] r29.2)
  else
  (prun Tryz.prog (Instr.fieldAt 30 r1.1 2)).bind fun v31 =>
  (rrun Tryz.prog (Instr.loadAt 28 v31) r23.2).bind fun v32 =>
  (prun Tryz.prog (Builtin.len_ #[28] 3 #[v32])).bind fun v33 =>
  (bin .gtr v33 (Value.int IntKind.i64 200)).bind fun v34 =>
  (asB v34).bind fun c30 =>
  if c30 then
    (call 38 #[(Value.int IntKind.i64 (-1)), (Value.int IntKind.i64 196)] r23.2).bind fun r35 =>
    some (Res.ret [r35.1] r35.2)
  else
  some (Res.norm [r1.1, v12] r23.2)).bind fun (r : Res) => (r.unblock 0).cont fun vs W1 =>
  let l1 := nth vs 0
  let day3 := nth vs 1
  (prun Tryz.prog (Instr.fieldAt 30 l1 2)).bind fun v36 =>
  (rrun Tryz.prog (Instr.loadAt 28 v36) W1).bind fun v37 =>
  (prun Tryz.prog (Builtin.len_ #[28] 3 #[v37])).bind fun v38 =>
  (iter (f15.l0 call) [l1, day3, v37, v38, (Value.int IntKind.i64 0)] W1).bind fun (r : Res) => (r.unblock 1).cont fun vs_3 W4 =>
  some (Res.ret [Value.nilIface] W4)).bind Res.done
theorem f15.eq (call dfr : CallF) (l0 : Value) (W0 : World) : aFun Tryz.prog call dfr Tryz.f15 f15.ann (ofArgs #[l0]) W0 = f15 call l0 W0 := by kernel_rfl

/-- dailies/dailiesref19.Lines -/
def f17.ann : Ann := (.s .z (.s .z (.s (.s .z (.b [3] (.l [1, 3, 4] (.s (.s .z (.c .z .z)) (.s (.b [1, 3, 4] (.s .z (.s .z (.s (.s .z (.j [1, 3, 4, 5, 6] .z .z)) (.s .z (.s .z (.s .z (.s (.s .z (.j [1, 3, 4, 6] .z .z)) .z)))))))) .z))))) (.s .z .z))))
noncomputable def f17.l0 (call : CallF) (vs : List Value) (W1 : World) : Option Res :=
  let l1 := nth vs 0
  let out3 := nth vs 1
  let k4 := nth vs 2
  (prun Tryz.prog (Instr.fieldAt 30 l1 2)).bind fun v20 =>
  (rrun Tryz.prog (Instr.loadAt 28 v20) W1).bind fun v21 =>
  (prun Tryz.prog (Builtin.len_ #[28] 3 #[v21])).bind fun v22 =>
  (bin .lss k4 v22).bind fun v23 =>
  (asB v23).bind fun c23 =>
  if c23 then
    ((prun Tryz.prog (Instr.fieldAt 30 l1 2)).bind fun v26 =>
    (rrun Tryz.prog (Instr.loadAt 28 v26) W1).bind fun v27 =>
    (prun Tryz.prog (Instr.indexAt 28 v27 k4)).bind fun v29 =>
    (rrun Tryz.prog (Instr.loadAt 51 v29) W1).bind fun v30 =>
    (erun Tryz.prog (Instr.alloc 51 true (.tuple #[])) W1).bind fun r5 =>
    (erun Tryz.prog (Instr.storeAt 51 r5.1 v30) r5.2).bind fun r =>
    (erun Tryz.prog (Instr.buildSlice 91 1 #[(0, (Value.string { data := #[99, 117, 116] }))]) r.2).bind fun r31 =>
    (prun Tryz.prog (Instr.fieldAt 51 r5.1 3)).bind fun v32 =>
    (rrun Tryz.prog (Instr.loadAt 3 v32) r31.2).bind fun v33 =>
    (bin .gtr v33 (Value.int IntKind.i64 0)).bind fun v34 =>
    (asB v34).bind fun c34 =>
    (if c34 then
      (prun Tryz.prog (Instr.fieldAt 51 r5.1 3)).bind fun v35 =>
      (rrun Tryz.prog (Instr.loadAt 3 v35) r31.2).bind fun v36 =>
      (call 44 #[v36] r31.2).bind fun r37 =>
      (erun Tryz.prog (Instr.buildSlice 91 2 #[(0, (Value.string { data := #[102, 97, 100, 101] })), (1, r37.1)]) r37.2).bind fun r38 =>
      some (Res.norm [l1, out3, k4, r5.1, r38.1] r38.2)
     else
      some (Res.norm [l1, out3, k4, r5.1, r31.1] r31.2)).bind fun (r : Res) => r.cont fun vs_1 W2 =>
    let l1_1 := nth vs_1 0
    let out3_1 := nth vs_1 1
    let k4_1 := nth vs_1 2
    let x5 := nth vs_1 3
    let row6 := nth vs_1 4
    (prun Tryz.prog (Instr.fieldAt 30 l1_1 1)).bind fun v40 =>
    (rrun Tryz.prog (Instr.loadAt 27 v40) W2).bind fun v41 =>
    (prun Tryz.prog (Instr.fieldAt 51 x5 1)).bind fun v42 =>
    (rrun Tryz.prog (Instr.loadAt 3 v42) W2).bind fun v43 =>
    (call 45 #[v41, v43] W2).bind fun r44 =>
    (prun Tryz.prog (Instr.extract r44.1 0)).bind fun v45 =>
    (prun Tryz.prog (Instr.extract r44.1 1)).bind fun v46 =>
    (prun Tryz.prog (Instr.fieldAt 30 l1_1 1)).bind fun v48 =>
    (rrun Tryz.prog (Instr.loadAt 27 v48) r44.2).bind fun v49 =>
    (prun Tryz.prog (Instr.fieldAt 51 x5 2)).bind fun v50 =>
    (rrun Tryz.prog (Instr.loadAt 3 v50) r44.2).bind fun v51 =>
    (call 45 #[v49, v51] r44.2).bind fun r52 =>
    (prun Tryz.prog (Instr.extract r52.1 0)).bind fun v53 =>
    (prun Tryz.prog (Instr.extract r52.1 1)).bind fun v54 =>
    (prun Tryz.prog (Instr.fieldAt 51 x5 0)).bind fun v56 =>
    (rrun Tryz.prog (Instr.loadAt 9 v56) r52.2).bind fun v57 =>
    (erun Tryz.prog (Instr.buildSlice 91 3 #[(0, v57), (1, v45), (2, v53)]) r52.2).bind fun r60 =>
    (erun Tryz.prog (Builtin.append_ #[91, 91] 91 #[row6, r60.1]) r60.2).bind fun r61 =>
    (prun Tryz.prog (Instr.fieldAt 51 x5 4)).bind fun v62 =>
    (rrun Tryz.prog (Instr.loadAt 9 v62) r61.2).bind fun v63 =>
    (prun Tryz.prog (do eqGuard .neq 9 (Operand.tmp 63) (Operand.const (Value.string { data := #[] })) v63 (Value.string { data := #[] }); binOp .neq 9 v63 (Value.string { data := #[] }))).bind fun v64 =>
    (asB v64).bind fun c64 =>
    (if c64 then
      (prun Tryz.prog (Instr.fieldAt 51 x5 4)).bind fun v66 =>
      (rrun Tryz.prog (Instr.loadAt 9 v66) r61.2).bind fun v67 =>
      (call 43 #[v67] r61.2).bind fun r68 =>
      (erun Tryz.prog (Instr.buildSlice 91 1 #[(0, r68.1)]) r68.2).bind fun r69 =>
      (erun Tryz.prog (Builtin.append_ #[91, 91] 91 #[r61.1, r69.1]) r69.2).bind fun r70 =>
      some (Res.norm [l1_1, out3_1, k4_1, r70.1] r70.2)
     else
      some (Res.norm [l1_1, out3_1, k4_1, r61.1] r61.2)).bind fun (r : Res) => r.cont fun vs_2 W3 =>
    let l1_2 := nth vs_2 0
    let out3_2 := nth vs_2 1
    let k4_2 := nth vs_2 2
    let row6_1 := nth vs_2 3
    (erun Tryz.prog (Instr.buildSlice 45 1 #[(0, row6_1)]) W3).bind fun r73 =>
    (erun Tryz.prog (Builtin.append_ #[45, 45] 45 #[out3_2, r73.1]) r73.2).bind fun r74 =>
    some (Res.norm [l1_2, r74.1, k4_2] r74.2)).bind fun (r : Res) => (r.unblock 1).cont fun vs_3 W4 =>
    let l1_3 := nth vs_3 0
    let out3_3 := nth vs_3 1
    let k4_3 := nth vs_3 2
    (bin .add k4_3 (Value.int IntKind.i64 1)).bind fun v25 =>
    some (Res.norm [l1_3, out3_3, v25] W4)
  else
  some (Res.exit 0 [out3] W1)
noncomputable def f17 (call : CallF) (l0 : Value) (W0 : World) : Option (Value × World) :=
  ((erun Tryz.prog (Instr.box 30 l0) W0).bind fun r1 =>
  ((prun Tryz.prog (Instr.fieldAt 30 r1.1 1)).bind fun v11 =>
  some (v11, r1.2.drew)).bind fun r11 =>
  ((rrun Tryz.prog (Instr.loadAt 27 r11.1) r11.2).bind fun v12 =>
  some (v12, r11.2)).bind fun r12 =>
  ((call 42 #[r12.1] r12.2).bind fun r13_1 =>
  some (r13_1.1, r13_1.2)).bind fun r13 =>
  ((prun Tryz.prog (Instr.fieldAt 30 r1.1 0)).bind fun v14 =>
  some (v14, r13.2)).bind fun r14 =>
  ((rrun Tryz.prog (Instr.loadAt 9 r14.1) r14.2).bind fun v15 =>
  some (v15, r14.2)).bind fun r15 =>
  ((call 43 #[r15.1] r15.2).bind fun r16_1 =>
  some (r16_1.1, r16_1.2)).bind fun r16 =>
  ((erun Tryz.prog (Instr.buildSlice 91 3 #[(0, (Value.string { data := #[108, 105, 115, 116] })), (1, r13.1), (2, r16.1)]) r16.2).bind fun r17_1 =>
  some (r17_1.1, r17_1.2)).bind fun r17 =>
  ((erun Tryz.prog (Instr.buildSlice 45 1 #[(0, r17.1)]) r17.2).bind fun r18_1 =>
  some (r18_1.1, r18_1.2)).bind fun r18 =>
  chkThen ((((rrun Tryz.prog (Instr.loadAt 9 r14.1) r12.2).bind fun v15_1 => some v15_1) = some r15.1 ∧ ((rrun Tryz.prog (Instr.loadAt 9 r14.1) r13.2).bind fun v15_2 => some v15_2) = some r15.1) ∧ True)
  ((iter (f17.l0 call) [r1.1, r18.1, (Value.int IntKind.i64 0)] r18.2).bind fun (r : Res) => (r.unblock 0).cont fun vs_4 W5 =>
  let out3_4 := nth vs_4 0
  some (Res.ret [out3_4] W5))).bind Res.done
theorem f17.eq (call dfr : CallF) (l0 : Value) (W0 : World) : aFun Tryz.prog call dfr Tryz.f17 f17.ann (ofArgs #[l0]) W0 = f17 call l0 W0 := by kernel_rfl

/-- dailies/cuts.Print -/
def f21.ann : Ann := (.s .z (.s (.s .z (.s .z (.c (.s .z .z) .z))) (.s .z (.s (.s .z (.b [5] (.l [1, 5, 24, 25, 26] (.s .z (.s (.c .z .z) (.s (.b [1, 5, 24, 25, 26] (.s .z .z)) .z)))))) (.s (.s .z (.c (.s .z .z) .z)) (.s .z .z))))))
noncomputable def f21.l0 (call : CallF) (vs : List Value) (W1 : World) : Option Res :=
  let l1 := nth vs 0
  let s5 := nth vs 1
  let v24_1 := nth vs 2
  let v25_1 := nth vs 3
  let v26 := nth vs 4
  (bin .lss v26 v25_1).bind fun v27 =>
  (asB v27).bind fun c27 =>
  if c27 then
    ((prun Tryz.prog (Instr.indexAt 28 v24_1 v26)).bind fun v28 =>
    (rrun Tryz.prog (Instr.loadAt 51 v28) W1).bind fun v29 =>
    (erun Tryz.prog (Instr.alloc 51 true (.tuple #[])) W1).bind fun r7 =>
    (erun Tryz.prog (Instr.storeAt 51 r7.1 v29) r7.2).bind fun r =>
    (rrun Tryz.prog (Instr.loadAt 51 r7.1) r.2).bind fun v31 =>
    (prun Tryz.prog (Instr.fieldAt 30 l1 1)).bind fun v32 =>
    (rrun Tryz.prog (Instr.loadAt 27 v32) r.2).bind fun v33 =>
    (call 51 #[v31, v33] r.2).bind fun r34 =>
    (prun Tryz.prog (do eqGuard .add 9 (Operand.tmp 30) (Operand.tmp 34) s5 r34.1; binOp .add 9 s5 r34.1)).bind fun v35 =>
    some (Res.norm [l1, v35, v24_1, v25_1, v26] r34.2)).bind fun (r : Res) => (r.unblock 1).cont fun vs_1 W2 =>
    let l1_1 := nth vs_1 0
    let s5_1 := nth vs_1 1
    let v24_2 := nth vs_1 2
    let v25_2 := nth vs_1 3
    let v26_1 := nth vs_1 4
    (bin .add v26_1 (Value.int IntKind.i64 1)).bind fun v36 =>
    some (Res.norm [l1_1, s5_1, v24_2, v25_2, v36] W2)
  else
  some (Res.exit 0 [s5] W1)
noncomputable def f21 (call : CallF) (l0 : Value) (W0 : World) : Option (Value × World) :=
  ((erun Tryz.prog (Instr.box 30 l0) W0).bind fun r1 =>
  (rrun Tryz.prog (Instr.loadAt 30 r1.1) r1.2).bind fun v8 =>
  (call 15 #[v8] r1.2).bind fun r9 =>
  (rrun Tryz.prog (do eqGuard .neq 32 (Operand.tmp 10) (Operand.const Value.nilIface) r9.1 Value.nilIface; binOp .neq 32 r9.1 Value.nilIface) r9.2).bind fun v11 =>
  (asB v11).bind fun c11 =>
  if c11 then
    some (Res.ret [(Value.string { data := #[] }), r9.1] r9.2)
  else
  ((prun Tryz.prog (Instr.fieldAt 30 r1.1 1)).bind fun v13 =>
  some (v13, r9.2.drew)).bind fun r13 =>
  ((rrun Tryz.prog (Instr.loadAt 27 r13.1) r13.2).bind fun v14 =>
  some (v14, r13.2)).bind fun r14 =>
  ((call 49 #[r14.1] r14.2).bind fun r15_1 =>
  some (r15_1.1, r15_1.2)).bind fun r15 =>
  ((prun Tryz.prog (do eqGuard .add 9 (Operand.const (Value.string { data := #[108, 105, 115, 116, 32] })) (Operand.tmp 15) (Value.string { data := #[108, 105, 115, 116, 32] }) r15.1; binOp .add 9 (Value.string { data := #[108, 105, 115, 116, 32] }) r15.1)).bind fun v16 =>
  some (v16, r15.2)).bind fun r16 =>
  ((prun Tryz.prog (do eqGuard .add 9 (Operand.tmp 16) (Operand.const (Value.string { data := #[32] })) r16.1 (Value.string { data := #[32] }); binOp .add 9 r16.1 (Value.string { data := #[32] }))).bind fun v17 =>
  some (v17, r16.2)).bind fun r17 =>
  ((prun Tryz.prog (Instr.fieldAt 30 r1.1 0)).bind fun v18 =>
  some (v18, r17.2)).bind fun r18 =>
  ((rrun Tryz.prog (Instr.loadAt 9 r18.1) r18.2).bind fun v19 =>
  some (v19, r18.2)).bind fun r19 =>
  ((call 50 #[r19.1] r19.2).bind fun r20_1 =>
  some (r20_1.1, r20_1.2)).bind fun r20 =>
  ((prun Tryz.prog (do eqGuard .add 9 (Operand.tmp 17) (Operand.tmp 20) r17.1 r20.1; binOp .add 9 r17.1 r20.1)).bind fun v21 =>
  some (v21, r20.2)).bind fun r21 =>
  ((prun Tryz.prog (do eqGuard .add 9 (Operand.tmp 21) (Operand.const (Value.string { data := #[10] })) r21.1 (Value.string { data := #[10] }); binOp .add 9 r21.1 (Value.string { data := #[10] }))).bind fun v22 =>
  some (v22, r21.2)).bind fun r22 =>
  chkThen ((((rrun Tryz.prog (Instr.loadAt 9 r18.1) r14.2).bind fun v19_1 => some v19_1) = some r19.1 ∧ ((rrun Tryz.prog (Instr.loadAt 9 r18.1) r15.2).bind fun v19_2 => some v19_2) = some r19.1) ∧ True)
  ((prun Tryz.prog (Instr.fieldAt 30 r1.1 2)).bind fun v23 =>
  (rrun Tryz.prog (Instr.loadAt 28 v23) r22.2).bind fun v24 =>
  (prun Tryz.prog (Builtin.len_ #[28] 3 #[v24])).bind fun v25 =>
  (iter (f21.l0 call) [r1.1, r22.1, v24, v25, (Value.int IntKind.i64 0)] r22.2).bind fun (r : Res) => (r.unblock 0).cont fun vs_2 W3 =>
  let s5_2 := nth vs_2 0
  (prun Tryz.prog (Builtin.len_ #[9] 3 #[s5_2])).bind fun v38 =>
  (bin .gtr v38 (Value.int IntKind.i64 20000)).bind fun v39 =>
  (asB v39).bind fun c39 =>
  if c39 then
    (call 38 #[(Value.int IntKind.i64 (-1)), (Value.int IntKind.i64 191)] W3).bind fun r40 =>
    some (Res.ret [(Value.string { data := #[] }), r40.1] r40.2)
  else
  some (Res.ret [s5_2, Value.nilIface] W3))).bind Res.done
theorem f21.eq (call dfr : CallF) (l0 : Value) (W0 : World) : aFun Tryz.prog call dfr Tryz.f21 f21.ann (ofArgs #[l0]) W0 = f21 call l0 W0 := by kernel_rfl

/-- errors.Is -/
def f22.ann : Ann := (.s .z (.s (.s .z (.c (.s .z .z) .z)) (.s .z (.s .z .z))))
noncomputable def f22 (call : CallF) (err0 : Value) (target1 : Value) (W0 : World) : Option (Value × World) :=
  ((rrun Tryz.prog (do eqGuard .eql 32 (Operand.tmp 6) (Operand.const Value.nilIface) err0 Value.nilIface; binOp .eql 32 err0 Value.nilIface) W0).bind fun v7 =>
  (asB v7).bind fun b8 =>
  (if b8 = false then (rrun Tryz.prog (do eqGuard .eql 32 (Operand.tmp 9) (Operand.const Value.nilIface) target1 Value.nilIface; binOp .eql 32 target1 Value.nilIface) W0).bind fun v10 =>
    some (v10, W0)
   else some ((Value.bool true), W0)).bind fun r11 =>
  (asB r11.1).bind fun c11 =>
  if c11 then
    (rrun Tryz.prog (do eqGuard .eql 32 (Operand.tmp 12) (Operand.tmp 13) err0 target1; binOp .eql 32 err0 target1) r11.2).bind fun v14 =>
    some (Res.ret [v14] r11.2)
  else
  (xrun Tryz.prog (callFunc 52 #[target1]) r11.2).bind fun r16 =>
  (imethod Tryz.prog r16.1 "Comparable" r16.2).bind fun m17 =>
  (call m17.1 #[m17.2] r16.2).bind fun r17 =>
  (call 53 #[err0, target1, r17.1] r17.2).bind fun r21 =>
  some (Res.ret [r21.1] r21.2)).bind Res.done
theorem f22.eq (call dfr : CallF) (err0 : Value) (target1 : Value) (W0 : World) : aFun Tryz.prog call dfr Tryz.f22 f22.ann (ofArgs #[err0, target1]) W0 = f22 call err0 target1 W0 := by kernel_rfl

/-- dailies/cuts.fault -/
def f23.ann : Ann := (.s .z (.s .z .z))
noncomputable def f23 (call : CallF) (at0 : Value) (e1 : Value) (W0 : World) : Option (Value × World) :=
  ((prun Tryz.prog (Instr.build 83 #[(0, at0), (1, e1)])).bind fun v7 =>
  (erun Tryz.prog (Instr.box 83 v7) W0).bind fun r8 =>
  (prun Tryz.prog (Instr.makeInterface 82 r8.1)).bind fun v9 =>
  some (Res.ret [v9] r8.2)).bind Res.done
theorem f23.eq (call dfr : CallF) (at0 : Value) (e1 : Value) (W0 : World) : aFun Tryz.prog call dfr Tryz.f23 f23.ann (ofArgs #[at0, e1]) W0 = f23 call at0 e1 W0 := by kernel_rfl

/-- dailies/cuts.unruly -/
def f24.ann : Ann := (.s .z (.s (.s .z (.b [] (.l [0, 8] (.s .z (.s (.c .z .z) (.b [0, 8] (.s .z (.s (.s .z (.c .z .z)) (.s .z (.s .z (.c (.s .z .z) .z))))))))))) (.s .z .z)))
noncomputable def f24.l0 (call : CallF) (vs : List Value) (W1 : World) : Option Res :=
  let s0_1 := nth vs 0
  let v8 := nth vs 1
  (erun Tryz.prog (Instr.next v8 true 0) W1).bind fun r9 =>
  (prun Tryz.prog (Instr.extract r9.1 0)).bind fun v10 =>
  (asB v10).bind fun c10 =>
  if c10 then
    ((prun Tryz.prog (Instr.extract r9.1 1)).bind fun v11 =>
    (prun Tryz.prog (Instr.extract r9.1 2)).bind fun v12 =>
    (bin .neq v12 (Value.int IntKind.i32 65533)).bind fun v14 =>
    (asB v14).bind fun c14 =>
    if c14 then
      some (Res.exit 1 [s0_1, v8] r9.2)
    else
    (prun Tryz.prog (Instr.sliceAt 9 s0_1 (some v11) none none)).bind fun v18 =>
    (call 54 #[v18] r9.2).bind fun r19 =>
    (prun Tryz.prog (Instr.extract r19.1 0)).bind fun v20 =>
    (prun Tryz.prog (Instr.extract r19.1 1)).bind fun v21 =>
    (bin .eql v21 (Value.int IntKind.i64 1)).bind fun v23 =>
    (asB v23).bind fun c23 =>
    if c23 then
      some (Res.ret [v11] r19.2)
    else
    some (Res.norm [s0_1, v8] r19.2)).bind fun (r : Res) => (r.unblock 1).cont fun vs_1 W2 =>
    let s0_2 := nth vs_1 0
    let v8_1 := nth vs_1 1
    some (Res.norm [s0_2, v8_1] W2)
  else
  some (Res.exit 0 [] r9.2)
noncomputable def f24 (call : CallF) (s0 : Value) (W0 : World) : Option (Value × World) :=
  ((erun Tryz.prog (Instr.range 9 s0) W0).bind fun r8 =>
  (iter (f24.l0 call) [s0, r8.1] r8.2).bind fun (r : Res) => (r.unblock 0).cont fun vs_2 W3 =>
  some (Res.ret [(Value.int IntKind.i64 (-1))] W3)).bind Res.done
theorem f24.eq (call dfr : CallF) (s0 : Value) (W0 : World) : aFun Tryz.prog call dfr Tryz.f24 f24.ann (ofArgs #[s0]) W0 = f24 call s0 W0 := by kernel_rfl

/-- strings.IndexByte -/
def f25.ann : Ann := (.s .z (.s .z .z))
noncomputable def f25 (call : CallF) (s0 : Value) (c1 : Value) (W0 : World) : Option (Value × World) :=
  ((call 55 #[s0, c1] W0).bind fun r7 =>
  some (Res.ret [r7.1] r7.2)).bind Res.done
theorem f25.eq (call dfr : CallF) (s0 : Value) (c1 : Value) (W0 : World) : aFun Tryz.prog call dfr Tryz.f25 f25.ann (ofArgs #[s0, c1]) W0 = f25 call s0 c1 W0 := by kernel_rfl

/-- dailies/cuts.words -/
def f26.ann : Ann := (.s .z (.s .z (.s (.b [2, 8] (.l [0, 1, 2, 8] (.s (.s .z (.c .z .z)) (.b [0, 1, 2, 8] (.s .z (.b [0, 1, 2, 8] (.s (.s .z (.j [0, 1, 2, 8, 17, 42] .z .z)) (.c .z (.s .z (.c (.s .z .z) (.s .z (.c (.s .z (.s .z (.s .z .z))) (.s .z (.s (.s .z (.j [0, 1, 2, 8, 11] .z .z)) (.s .z .z))))))))))))))) (.s .z .z))))
noncomputable def f26.l0 (call : CallF) (vs : List Value) (W1 : World) : Option Res :=
  let s0_1 := nth vs 0
  let at1_1 := nth vs 1
  let to2_1 := nth vs 2
  let l8 := nth vs 3
  (bin .lss at1_1 to2_1).bind fun v14 =>
  (asB v14).bind fun c14 =>
  if c14 then
    ((prun Tryz.prog (Instr.index 9 s0_1 at1_1)).bind fun v17 =>
    ((bin .eql v17 (Value.int IntKind.u8 32)).bind fun v43 =>
    (asB v43).bind fun c42 =>
    (if c42 then
      some (Res.norm [s0_1, at1_1, to2_1, l8, v17, v43] W1)
     else
      (bin .eql v17 (Value.int IntKind.u8 9)).bind fun v44 =>
      some (Res.norm [s0_1, at1_1, to2_1, l8, v17, v44] W1)).bind fun (r : Res) => r.cont fun vs_1 W2 =>
    let s0_2 := nth vs_1 0
    let at1_2 := nth vs_1 1
    let to2_2 := nth vs_1 2
    let l8_1 := nth vs_1 3
    let v17_1 := nth vs_1 4
    let v42 := nth vs_1 5
    (asB v42).bind fun c42_1 =>
    if c42_1 then
      (bin .add at1_2 (Value.int IntKind.i64 1)).bind fun v46 =>
      some (Res.norm [s0_2, v46, to2_2, l8_1] W2)
    else
    (bin .eql v17_1 (Value.int IntKind.u8 35)).bind fun v48 =>
    (asB v48).bind fun c47 =>
    if c47 then
      some (Res.ret [l8_1, at1_2] W2)
    else
    (bin .eql v17_1 (Value.int IntKind.u8 34)).bind fun v52 =>
    (asB v52).bind fun c51 =>
    if c51 then
      (prun Tryz.prog (Instr.sliceAt 9 s0_2 (some at1_2) (some to2_2) none)).bind fun v57 =>
      (call 56 #[v57] W2).bind fun r58 =>
      (prun Tryz.prog (Instr.extract r58.1 0)).bind fun v59 =>
      (prun Tryz.prog (Instr.extract r58.1 1)).bind fun v60 =>
      (erun Tryz.prog (Instr.alloc 114 true (.tuple #[])) r58.2).bind fun r9 =>
      (erun Tryz.prog (Instr.storeAt 114 r9.1 v59) r9.2).bind fun r =>
      (prun Tryz.prog (Instr.fieldAt 114 r9.1 0)).bind fun v62 =>
      (erun Tryz.prog (Instr.storeAt 3 v62 at1_2) r.2).bind fun r_1 =>
      (rrun Tryz.prog (Instr.loadAt 114 r9.1) r_1.2).bind fun v64 =>
      (erun Tryz.prog (Instr.buildSlice 62 1 #[(0, v64)]) r_1.2).bind fun r65 =>
      (erun Tryz.prog (Builtin.append_ #[62, 62] 62 #[l8_1, r65.1]) r65.2).bind fun r66 =>
      (bin .add at1_2 v60).bind fun v69 =>
      some (Res.norm [s0_2, v69, to2_2, r66.1] r66.2)
    else
    (prun Tryz.prog (Instr.sliceAt 9 s0_2 (some at1_2) (some to2_2) none)).bind fun v21 =>
    (call 57 #[v21, (Value.string { data := #[32, 9] })] W2).bind fun r22 =>
    (bin .lss r22.1 (Value.int IntKind.i64 0)).bind fun v24 =>
    (asB v24).bind fun c24 =>
    (if c24 then
      (bin .sub to2_2 at1_2).bind fun v27 =>
      some (Res.norm [s0_2, at1_2, to2_2, l8_1, v27] r22.2)
     else
      some (Res.norm [s0_2, at1_2, to2_2, l8_1, r22.1] r22.2)).bind fun (r : Res) => r.cont fun vs_2 W3 =>
    let s0_3 := nth vs_2 0
    let at1_3 := nth vs_2 1
    let to2_3 := nth vs_2 2
    let l8_2 := nth vs_2 3
    let n11 := nth vs_2 4
    (bin .add at1_3 n11).bind fun v34 =>
    (prun Tryz.prog (Instr.sliceAt 9 s0_3 (some at1_3) (some v34) none)).bind fun v35 =>
    (prun Tryz.prog (Instr.build 114 #[(0, at1_3), (1, v35)])).bind fun v36 =>
    (erun Tryz.prog (Instr.buildSlice 62 1 #[(0, v36)]) W3).bind fun r37 =>
    (erun Tryz.prog (Builtin.append_ #[62, 62] 62 #[l8_2, r37.1]) r37.2).bind fun r38 =>
    (bin .add at1_3 n11).bind fun v41 =>
    some (Res.norm [s0_3, v41, to2_3, r38.1] r38.2)).bind fun (r : Res) => (r.unblock 2).cont fun vs_3 W4 =>
    let s0_4 := nth vs_3 0
    let at1_4 := nth vs_3 1
    let to2_4 := nth vs_3 2
    let l8_3 := nth vs_3 3
    some (Res.norm [s0_4, at1_4, to2_4, l8_3] W4)).bind fun (r : Res) => (r.unblock 1).cont fun vs_4 W5 =>
    let s0_5 := nth vs_4 0
    let at1_5 := nth vs_4 1
    let to2_5 := nth vs_4 2
    let l8_4 := nth vs_4 3
    some (Res.norm [s0_5, at1_5, to2_5, l8_4] W5)
  else
  some (Res.exit 0 [to2_1, l8] W1)
noncomputable def f26 (call : CallF) (s0 : Value) (at1 : Value) (to2 : Value) (W0 : World) : Option (Value × World) :=
  ((iter (f26.l0 call) [s0, at1, to2, (Value.slice none 0 0)] W0).bind fun (r : Res) => (r.unblock 0).cont fun vs_5 W6 =>
  let to2_6 := nth vs_5 0
  let l8_5 := nth vs_5 1
  some (Res.ret [l8_5, to2_6] W6)).bind Res.done
theorem f26.eq (call dfr : CallF) (s0 : Value) (at1 : Value) (to2 : Value) (W0 : World) : aFun Tryz.prog call dfr Tryz.f26 f26.ann (ofArgs #[s0, at1, to2]) W0 = f26 call s0 at1 to2 W0 := by kernel_rfl

/-- (*dailies/cuts.reader).list -/
def f27.ann : Ann := (.s .z (.s (.s .z (.s .z (.c (.s .z .z) .z))) (.s .z (.s (.s .z (.c (.s .z .z) .z)) (.s .z (.s (.s .z (.c (.s .z .z) .z)) (.s .z .z)))))))
noncomputable def f27 (call : CallF) (r0 : Value) (W0 : World) : Option (Value × World) :=
  ((erun Tryz.prog (Instr.alloc 30 true (.tuple #[])) W0).bind fun r2 =>
  (call 58 #[r0, (.func (.func 59) #[] #[])] r2.2).bind fun r11 =>
  (prun Tryz.prog (Instr.extract r11.1 0)).bind fun v12 =>
  (prun Tryz.prog (Instr.extract r11.1 1)).bind fun v13 =>
  (erun Tryz.prog (Instr.alloc 114 true (.tuple #[])) r11.2).bind fun r4 =>
  (erun Tryz.prog (Instr.storeAt 114 r4.1 v12) r4.2).bind fun r =>
  (rrun Tryz.prog (do eqGuard .neq 32 (Operand.tmp 14) (Operand.const Value.nilIface) v13 Value.nilIface; binOp .neq 32 v13 Value.nilIface) r.2).bind fun v15 =>
  (asB v15).bind fun c15 =>
  if c15 then
    (prun Tryz.prog (Instr.build 30 #[])).bind fun v16 =>
    (erun Tryz.prog (Instr.storeAt 30 r2.1 v16) r.2).bind fun r_1 =>
    some (Res.ret [r2.1, v13] r_1.2)
  else
  (call 58 #[r0, (.func (.func 60) #[] #[])] r.2).bind fun r20 =>
  (prun Tryz.prog (Instr.extract r20.1 0)).bind fun v21 =>
  (prun Tryz.prog (Instr.extract r20.1 1)).bind fun v22 =>
  (erun Tryz.prog (Instr.alloc 114 true (.tuple #[])) r20.2).bind fun r6 =>
  (erun Tryz.prog (Instr.storeAt 114 r6.1 v21) r6.2).bind fun r_2 =>
  (rrun Tryz.prog (do eqGuard .neq 32 (Operand.tmp 23) (Operand.const Value.nilIface) v22 Value.nilIface; binOp .neq 32 v22 Value.nilIface) r_2.2).bind fun v24 =>
  (asB v24).bind fun c24 =>
  if c24 then
    (prun Tryz.prog (Instr.build 30 #[])).bind fun v25 =>
    (erun Tryz.prog (Instr.storeAt 30 r2.1 v25) r_2.2).bind fun r_3 =>
    some (Res.ret [r2.1, v22] r_3.2)
  else
  (call 62 #[r0, (Value.bool true)] r_2.2).bind fun r29 =>
  (prun Tryz.prog (Instr.extract r29.1 0)).bind fun v30 =>
  (prun Tryz.prog (Instr.extract r29.1 1)).bind fun v31 =>
  (erun Tryz.prog (Instr.alloc 114 true (.tuple #[])) r29.2).bind fun r8 =>
  (erun Tryz.prog (Instr.storeAt 114 r8.1 v30) r8.2).bind fun r_4 =>
  (rrun Tryz.prog (do eqGuard .neq 32 (Operand.tmp 32) (Operand.const Value.nilIface) v31 Value.nilIface; binOp .neq 32 v31 Value.nilIface) r_4.2).bind fun v33 =>
  (asB v33).bind fun c33 =>
  if c33 then
    (prun Tryz.prog (Instr.build 30 #[])).bind fun v34 =>
    (erun Tryz.prog (Instr.storeAt 30 r2.1 v34) r_4.2).bind fun r_5 =>
    some (Res.ret [r2.1, v31] r_5.2)
  else
  ((prun Tryz.prog (Instr.fieldAt 114 r8.1 1)).bind fun v36 =>
  some (v36, r_4.2.drew)).bind fun r36 =>
  ((rrun Tryz.prog (Instr.loadAt 9 r36.1) r36.2).bind fun v37 =>
  some (v37, r36.2)).bind fun r37 =>
  ((prun Tryz.prog (Instr.fieldAt 114 r6.1 1)).bind fun v38 =>
  some (v38, r37.2)).bind fun r38 =>
  ((rrun Tryz.prog (Instr.loadAt 9 r38.1) r38.2).bind fun v39 =>
  some (v39, r38.2)).bind fun r39 =>
  ((call 61 #[r39.1] r39.2).bind fun r40_1 =>
  some (r40_1.1, r40_1.2)).bind fun r40 =>
  ((prun Tryz.prog (Instr.build 30 #[(0, r37.1), (1, r40.1)])).bind fun v41 =>
  some (v41, r40.2)).bind fun r41 =>
  ((call 63 #[r0] r41.2).bind fun r43_1 =>
  some (r43_1.1, r43_1.2)).bind fun r43 =>
  ((erun Tryz.prog (Instr.storeAt 30 r2.1 r41.1) r43.2).bind fun r_7 =>
  some (undef, r_7.2)).bind fun r_6 =>
  chkThen ((((rrun Tryz.prog (Instr.loadAt 9 r36.1) r39.2).bind fun v37_3 => some v37_3) = some r37.1 ∧ ((rrun Tryz.prog (Instr.loadAt 9 r36.1) r40.2).bind fun v37_4 => some v37_4) = some r37.1) ∧ (((rrun Tryz.prog (Instr.loadAt 9 r36.1) r41.2).bind fun v37_1 => some v37_1) = some r37.1 ∧ ((rrun Tryz.prog (Instr.loadAt 9 r36.1) r43.2).bind fun v37_2 => some v37_2) = some r37.1) ∧ True)
  (some (Res.ret [r2.1, r43.1] r_6.2))).bind (Res.doneR Tryz.prog [.cell 2 30, .tmp 3])
theorem f27.eq (call dfr : CallF) (r0 : Value) (W0 : World) : aFun Tryz.prog call dfr Tryz.f27 f27.ann (ofArgs #[r0]) W0 = f27 call r0 W0 := by kernel_rfl

/-- (*dailies/cuts.reader).event -/
def f28.ann : Ann := (.s .z (.s (.s .z (.c (.s .z .z) .z)) (.s .z (.s .z (.s (.s .z (.c (.s .z .z) .z)) (.s (.s .z (.j [0, 1, 5, 6] (.s .z (.s (.s .z (.c (.s .z .z) .z)) .z)) .z)) (.s .z (.s (.s .z (.c (.s .z .z) .z)) (.s .z (.s (.s .z (.s .z (.c (.s .z .z) .z))) (.s .z (.s (.s .z (.s .z (.c (.s .z .z) .z))) (.s (.s .z (.j [0, 1, 5, 6, 11] (.s .z (.s (.s .z (.c (.s .z .z) .z)) .z)) .z)) (.s (.s .z (.s .z (.c (.s .z .z) .z))) (.s .z (.s (.s .z (.b [] (.s .z (.c (.s .z .z) (.s .z (.c (.s .z .z) .z)))))) (.s .z .z)))))))))))))))))
noncomputable def f28 (call : CallF) (t0 : Value) (o1 : Value) (W0 : World) : Option (Value × World) :=
  ((nilV Tryz.prog o1).bind fun v17 =>
  (prun Tryz.prog (Instr.fieldAt 30 v17 2)).bind fun v18 =>
  (rrun Tryz.prog (Instr.loadAt 28 v18) W0).bind fun v19 =>
  (prun Tryz.prog (Builtin.len_ #[28] 3 #[v19])).bind fun v20 =>
  (bin .eql v20 (Value.int IntKind.i64 200)).bind fun v21 =>
  (asB v21).bind fun c21 =>
  if c21 then
    (nilV Tryz.prog t0).bind fun v23 =>
    (prun Tryz.prog (Instr.fieldAt 64 v23 0)).bind fun v24 =>
    (rrun Tryz.prog (Instr.loadAt 62 v24) W0).bind fun v25 =>
    (prun Tryz.prog (Instr.indexAt 62 v25 (Value.int IntKind.i64 0))).bind fun v26 =>
    (prun Tryz.prog (Instr.fieldAt 114 v26 0)).bind fun v27 =>
    (rrun Tryz.prog (Instr.loadAt 3 v27) W0).bind fun v28 =>
    (call 23 #[v28, (Value.int IntKind.i64 196)] W0).bind fun r29 =>
    some (Res.ret [r29.1] r29.2)
  else
  (erun Tryz.prog (Instr.alloc 51 true (.tuple #[])) W0).bind fun r5 =>
  (call 58 #[t0, (.func (.func 64) #[] #[])] r5.2).bind fun r32 =>
  (prun Tryz.prog (Instr.extract r32.1 0)).bind fun v33 =>
  (prun Tryz.prog (Instr.extract r32.1 1)).bind fun v34 =>
  (erun Tryz.prog (Instr.alloc 114 true (.tuple #[])) r32.2).bind fun r6 =>
  (erun Tryz.prog (Instr.storeAt 114 r6.1 v33) r6.2).bind fun r =>
  (rrun Tryz.prog (do eqGuard .neq 32 (Operand.tmp 35) (Operand.const Value.nilIface) v34 Value.nilIface; binOp .neq 32 v34 Value.nilIface) r.2).bind fun v36 =>
  (asB v36).bind fun c36 =>
  if c36 then
    some (Res.ret [v34] r.2)
  else
  (prun Tryz.prog (Instr.fieldAt 114 r6.1 1)).bind fun v38 =>
  (rrun Tryz.prog (Instr.loadAt 9 v38) r.2).bind fun v39 =>
  (prun Tryz.prog (do eqGuard .eql 9 (Operand.tmp 39) (Operand.const (Value.string { data := #[102, 97, 100, 101] })) v39 (Value.string { data := #[102, 97, 100, 101] }); binOp .eql 9 v39 (Value.string { data := #[102, 97, 100, 101] }))).bind fun v40 =>
  (asB v40).bind fun c40 =>
  (if c40 then
    (call 58 #[t0, (.func (.func 65) #[] #[])] r.2).bind fun r43 =>
    (prun Tryz.prog (Instr.extract r43.1 0)).bind fun v44 =>
    (prun Tryz.prog (Instr.extract r43.1 1)).bind fun v45 =>
    (erun Tryz.prog (Instr.alloc 114 true (.tuple #[])) r43.2).bind fun r8 =>
    (erun Tryz.prog (Instr.storeAt 114 r8.1 v44) r8.2).bind fun r_1 =>
    (rrun Tryz.prog (do eqGuard .neq 32 (Operand.tmp 46) (Operand.const Value.nilIface) v45 Value.nilIface; binOp .neq 32 v45 Value.nilIface) r_1.2).bind fun v47 =>
    (asB v47).bind fun c47 =>
    if c47 then
      some (Res.ret [v45] r_1.2)
    else
    (prun Tryz.prog (Instr.fieldAt 114 r8.1 1)).bind fun v50 =>
    (rrun Tryz.prog (Instr.loadAt 9 v50) r_1.2).bind fun v51 =>
    (call 66 #[v51] r_1.2).bind fun r52 =>
    (prun Tryz.prog (Instr.extract r52.1 0)).bind fun v53 =>
    (prun Tryz.prog (Instr.extract r52.1 1)).bind fun v54 =>
    (prun Tryz.prog (Instr.fieldAt 51 r5.1 3)).bind fun v55 =>
    (erun Tryz.prog (Instr.storeAt 3 v55 v53) r52.2).bind fun r_2 =>
    some (Res.norm [t0, o1, r5.1, r6.1] r_2.2)
   else
    some (Res.norm [t0, o1, r5.1, r6.1] r.2)).bind fun (r : Res) => r.cont fun vs W1 =>
  let t0_1 := nth vs 0
  let o1_1 := nth vs 1
  let a5 := nth vs 2
  let y6 := nth vs 3
  (call 58 #[t0_1, (.func (.func 67) #[] #[])] W1).bind fun r58 =>
  (prun Tryz.prog (Instr.extract r58.1 0)).bind fun v59 =>
  (prun Tryz.prog (Instr.extract r58.1 1)).bind fun v60 =>
  (erun Tryz.prog (Instr.alloc 114 true (.tuple #[])) r58.2).bind fun r10 =>
  (erun Tryz.prog (Instr.storeAt 114 r10.1 v59) r10.2).bind fun r_3 =>
  (rrun Tryz.prog (do eqGuard .neq 32 (Operand.tmp 61) (Operand.const Value.nilIface) v60 Value.nilIface; binOp .neq 32 v60 Value.nilIface) r_3.2).bind fun v62 =>
  (asB v62).bind fun c62 =>
  if c62 then
    some (Res.ret [v60] r_3.2)
  else
  (prun Tryz.prog (Instr.fieldAt 114 r10.1 1)).bind fun v64 =>
  (rrun Tryz.prog (Instr.loadAt 9 v64) r_3.2).bind fun v65 =>
  (prun Tryz.prog (Instr.fieldAt 51 a5 0)).bind fun v66 =>
  (erun Tryz.prog (Instr.storeAt 9 v66 v65) r_3.2).bind fun r_4 =>
  (nilV Tryz.prog o1_1).bind fun v70 =>
  (prun Tryz.prog (Instr.fieldAt 30 v70 1)).bind fun v71 =>
  (rrun Tryz.prog (Instr.loadAt 27 v71) r_4.2).bind fun v72 =>
  (call 68 #[t0_1, v72] r_4.2).bind fun r73 =>
  (prun Tryz.prog (Instr.extract r73.1 0)).bind fun v74 =>
  (prun Tryz.prog (Instr.extract r73.1 1)).bind fun v75 =>
  (prun Tryz.prog (Instr.extract r73.1 2)).bind fun v76 =>
  (prun Tryz.prog (Instr.fieldAt 51 a5 1)).bind fun v77 =>
  (erun Tryz.prog (Instr.storeAt 3 v77 v74) r73.2).bind fun r_5 =>
  (rrun Tryz.prog (do eqGuard .neq 32 (Operand.tmp 78) (Operand.const Value.nilIface) v76 Value.nilIface; binOp .neq 32 v76 Value.nilIface) r_5.2).bind fun v79 =>
  (asB v79).bind fun c79 =>
  if c79 then
    some (Res.ret [v76] r_5.2)
  else
  (prun Tryz.prog (Instr.build 114 #[])).bind fun v81 =>
  (erun Tryz.prog (Instr.alloc 114 true (.tuple #[])) r_5.2).bind fun r11 =>
  (erun Tryz.prog (Instr.storeAt 114 r11.1 v81) r11.2).bind fun r_6 =>
  (nilV Tryz.prog o1_1).bind fun v85 =>
  (prun Tryz.prog (Instr.fieldAt 30 v85 1)).bind fun v86 =>
  (rrun Tryz.prog (Instr.loadAt 27 v86) r_6.2).bind fun v87 =>
  (call 68 #[t0_1, v87] r_6.2).bind fun r88 =>
  (prun Tryz.prog (Instr.extract r88.1 0)).bind fun v89 =>
  (prun Tryz.prog (Instr.extract r88.1 1)).bind fun v90 =>
  (prun Tryz.prog (Instr.extract r88.1 2)).bind fun v91 =>
  (prun Tryz.prog (Instr.fieldAt 51 a5 2)).bind fun v92 =>
  (erun Tryz.prog (Instr.storeAt 3 v92 v89) r88.2).bind fun r_7 =>
  (erun Tryz.prog (Instr.storeAt 114 r11.1 v90) r_7.2).bind fun r_8 =>
  (rrun Tryz.prog (do eqGuard .neq 32 (Operand.tmp 93) (Operand.const Value.nilIface) v91 Value.nilIface; binOp .neq 32 v91 Value.nilIface) r_8.2).bind fun v94 =>
  (asB v94).bind fun c94 =>
  if c94 then
    some (Res.ret [v91] r_8.2)
  else
  (nilV Tryz.prog t0_1).bind fun v97 =>
  (prun Tryz.prog (Instr.fieldAt 64 v97 0)).bind fun v98 =>
  (rrun Tryz.prog (Instr.loadAt 62 v98) r_8.2).bind fun v99 =>
  (prun Tryz.prog (Builtin.len_ #[62] 3 #[v99])).bind fun v100 =>
  (bin .gtr v100 (Value.int IntKind.i64 0)).bind fun v101 =>
  (asB v101).bind fun c101 =>
  (if c101 then
    (call 62 #[t0_1, (Value.bool true)] r_8.2).bind fun r104 =>
    (prun Tryz.prog (Instr.extract r104.1 0)).bind fun v105 =>
    (prun Tryz.prog (Instr.extract r104.1 1)).bind fun v106 =>
    (erun Tryz.prog (Instr.alloc 114 true (.tuple #[])) r104.2).bind fun r12 =>
    (erun Tryz.prog (Instr.storeAt 114 r12.1 v105) r12.2).bind fun r_9 =>
    (rrun Tryz.prog (do eqGuard .neq 32 (Operand.tmp 107) (Operand.const Value.nilIface) v106 Value.nilIface; binOp .neq 32 v106 Value.nilIface) r_9.2).bind fun v108 =>
    (asB v108).bind fun c108 =>
    if c108 then
      some (Res.ret [v106] r_9.2)
    else
    (prun Tryz.prog (Instr.fieldAt 114 r12.1 1)).bind fun v110 =>
    (rrun Tryz.prog (Instr.loadAt 9 v110) r_9.2).bind fun v111 =>
    (prun Tryz.prog (Instr.fieldAt 51 a5 4)).bind fun v112 =>
    (erun Tryz.prog (Instr.storeAt 9 v112 v111) r_9.2).bind fun r_10 =>
    some (Res.norm [t0_1, o1_1, a5, y6, r11.1] r_10.2)
   else
    some (Res.norm [t0_1, o1_1, a5, y6, r11.1] r_8.2)).bind fun (r : Res) => r.cont fun vs_1 W2 =>
  let t0_2 := nth vs_1 0
  let o1_2 := nth vs_1 1
  let a5_1 := nth vs_1 2
  let y6_1 := nth vs_1 3
  let v11 := nth vs_1 4
  (call 63 #[t0_2] W2).bind fun r114 =>
  (rrun Tryz.prog (do eqGuard .neq 32 (Operand.tmp 115) (Operand.const Value.nilIface) r114.1 Value.nilIface; binOp .neq 32 r114.1 Value.nilIface) r114.2).bind fun v116 =>
  (asB v116).bind fun c116 =>
  if c116 then
    some (Res.ret [r114.1] r114.2)
  else
  ((nilV Tryz.prog o1_2).bind fun v120 =>
  some (v120, r114.2.drew)).bind fun r120 =>
  ((prun Tryz.prog (Instr.fieldAt 30 r120.1 2)).bind fun v121 =>
  some (v121, r120.2)).bind fun r121 =>
  ((rrun Tryz.prog (Instr.loadAt 28 r121.1) r121.2).bind fun v122 =>
  some (v122, r121.2)).bind fun r122 =>
  ((rrun Tryz.prog (Instr.loadAt 51 a5_1) r122.2).bind fun v123 =>
  some (v123, r122.2)).bind fun r123 =>
  ((erun Tryz.prog (Instr.buildSlice 28 1 #[(0, r123.1)]) r123.2).bind fun r124_1 =>
  some (r124_1.1, r124_1.2)).bind fun r124 =>
  ((erun Tryz.prog (Builtin.append_ #[28, 28] 28 #[r122.1, r124.1]) r124.2).bind fun r125_1 =>
  some (r125_1.1, r125_1.2)).bind fun r125 =>
  ((nilV Tryz.prog o1_2).bind fun v126 =>
  some (v126, r125.2)).bind fun r126 =>
  ((prun Tryz.prog (Instr.fieldAt 30 r126.1 2)).bind fun v127 =>
  some (v127, r126.2)).bind fun r127 =>
  ((erun Tryz.prog (Instr.storeAt 28 r127.1 r125.1) r127.2).bind fun r_12 =>
  some (undef, r_12.2)).bind fun r_11 =>
  chkThen ((((rrun Tryz.prog (Instr.loadAt 28 r121.1) r123.2).bind fun v122_1 => some v122_1) = some r122.1 ∧ ((rrun Tryz.prog (Instr.loadAt 28 r121.1) r124.2).bind fun v122_2 => some v122_2) = some r122.1) ∧ True)
  ((nilV Tryz.prog o1_2).bind fun v129 =>
  (rrun Tryz.prog (Instr.loadAt 30 v129) r_11.2).bind fun v130 =>
  (call 15 #[v130] r_11.2).bind fun r131 =>
  ((prun Tryz.prog (Instr.makeInterface 35 (Value.int IntKind.i64 194))).bind fun v134 =>
  (call 22 #[r131.1, v134] r131.2).bind fun r135 =>
  (asB r135.1).bind fun c132 =>
  if c132 then
    (prun Tryz.prog (Instr.fieldAt 114 v11 0)).bind fun v136 =>
    (rrun Tryz.prog (Instr.loadAt 3 v136) r135.2).bind fun v137 =>
    (call 23 #[v137, (Value.int IntKind.i64 194)] r135.2).bind fun r138 =>
    some (Res.ret [r138.1] r138.2)
  else
  (rrun Tryz.prog (do eqGuard .neq 32 (Operand.tmp 140) (Operand.const Value.nilIface) r131.1 Value.nilIface; binOp .neq 32 r131.1 Value.nilIface) r135.2).bind fun v141 =>
  (asB v141).bind fun c139 =>
  if c139 then
    (prun Tryz.prog (Instr.fieldAt 114 y6_1 0)).bind fun v142 =>
    (rrun Tryz.prog (Instr.loadAt 3 v142) r135.2).bind fun v143 =>
    (call 23 #[v143, (Value.int IntKind.i64 195)] r135.2).bind fun r144 =>
    some (Res.ret [r144.1] r144.2)
  else
  some (Res.norm [] r135.2)).bind fun (r : Res) => (r.unblock 0).cont fun vs_2 W3 =>
  some (Res.ret [Value.nilIface] W3))).bind Res.done
theorem f28.eq (call dfr : CallF) (t0 : Value) (o1 : Value) (W0 : World) : aFun Tryz.prog call dfr Tryz.f28 f28.ann (ofArgs #[t0, o1]) W0 = f28 call t0 o1 W0 := by kernel_rfl

/-- dailies/dailieslaw19.sameEvents -/
def f33.ann : Ann := (.s .z (.s (.s .z (.c (.s .z .z) .z)) (.s (.s .z (.b [] (.l [0, 1, 5] (.s (.s .z (.c .z .z)) (.s (.b [0, 1, 5] (.s .z (.c (.s .z .z) .z))) .z))))) (.s .z .z))))
noncomputable def f33.l0 (call : CallF) (vs : List Value) (W1 : World) : Option Res :=
  let a0_1 := nth vs 0
  let b1_1 := nth vs 1
  let i5 := nth vs 2
  (prun Tryz.prog (Builtin.len_ #[28] 3 #[a0_1])).bind fun v13 =>
  (bin .lss i5 v13).bind fun v14 =>
  (asB v14).bind fun c14 =>
  if c14 then
    ((prun Tryz.prog (Instr.indexAt 28 a0_1 i5)).bind fun v19 =>
    (rrun Tryz.prog (Instr.loadAt 51 v19) W1.drew).bind fun v20 =>
    (prun Tryz.prog (Instr.indexAt 28 b1_1 i5)).bind fun v23 =>
    (rrun Tryz.prog (Instr.loadAt 51 v23) W1.drew).bind fun v24 =>
    (rrun Tryz.prog (do eqGuard .neq 51 (Operand.tmp 20) (Operand.tmp 24) v20 v24; binOp .neq 51 v20 v24) W1.drew).bind fun v25 =>
    (asB v25).bind fun c25 =>
    if c25 then
      some (Res.ret [(Value.bool false)] W1.drew)
    else
    some (Res.norm [a0_1, b1_1, i5] W1.drew)).bind fun (r : Res) => (r.unblock 1).cont fun vs_1 W2 =>
    let a0_2 := nth vs_1 0
    let b1_2 := nth vs_1 1
    let i5_1 := nth vs_1 2
    (bin .add i5_1 (Value.int IntKind.i64 1)).bind fun v16 =>
    some (Res.norm [a0_2, b1_2, v16] W2)
  else
  some (Res.exit 0 [] W1)
noncomputable def f33 (call : CallF) (a0 : Value) (b1 : Value) (W0 : World) : Option (Value × World) :=
  ((prun Tryz.prog (Builtin.len_ #[28] 3 #[a0])).bind fun v7 =>
  (prun Tryz.prog (Builtin.len_ #[28] 3 #[b1])).bind fun v9 =>
  (bin .neq v7 v9).bind fun v10 =>
  (asB v10).bind fun c10 =>
  if c10 then
    some (Res.ret [(Value.bool false)] W0)
  else
  (iter (f33.l0 call) [a0, b1, (Value.int IntKind.i64 0)] W0).bind fun (r : Res) => (r.unblock 0).cont fun vs_2 W3 =>
  some (Res.ret [(Value.bool true)] W3)).bind Res.done
theorem f33.eq (call dfr : CallF) (a0 : Value) (b1 : Value) (W0 : World) : aFun Tryz.prog call dfr Tryz.f33 f33.ann (ofArgs #[a0, b1]) W0 = f33 call a0 b1 W0 := by kernel_rfl

/-- errors.As -/
def f34.ann : Ann := (.s .z (.s (.s .z (.c (.s .z .z) .z)) (.s (.s .z (.j [0, 1] .z .z)) (.s .z (.s .z (.s (.s .z (.j [0, 1, 5, 6] .z .z)) (.s .z (.s (.s .z (.j [0, 1, 5, 7] .z .z)) (.s .z .z)))))))))
noncomputable def f34 (call : CallF) (err0 : Value) (target1 : Value) (W0 : World) : Option (Value × World) :=
  ((rrun Tryz.prog (do eqGuard .eql 32 (Operand.tmp 8) (Operand.const Value.nilIface) err0 Value.nilIface; binOp .eql 32 err0 Value.nilIface) W0).bind fun v9 =>
  (asB v9).bind fun c9 =>
  if c9 then
    some (Res.ret [(Value.bool false)] W0)
  else
  (rrun Tryz.prog (do eqGuard .eql 20 (Operand.tmp 10) (Operand.const Value.nilIface) target1 Value.nilIface; binOp .eql 20 target1 Value.nilIface) W0).bind fun v11 =>
  (asB v11).bind fun c11 =>
  (if c11 then
    (prun Tryz.prog (Instr.makeInterface 9 (Value.string { data := #[101, 114, 114, 111, 114, 115, 58, 32, 116, 97, 114, 103, 101, 116, 32, 99, 97, 110, 110, 111, 116, 32, 98, 101, 32, 110, 105, 108] }))).bind fun v12 =>
    none
   else
    some (Res.norm [err0, target1] W0)).bind fun (r : Res) => r.cont fun vs W1 =>
  let err0_1 := nth vs 0
  let target1_1 := nth vs 1
  (xrun Tryz.prog (callFunc 76 #[target1_1]) W1).bind fun r14 =>
  (erun Tryz.prog (Instr.alloc 137 true (.tuple #[])) r14.2).bind fun r5 =>
  (erun Tryz.prog (Instr.storeAt 137 r5.1 r14.1) r5.2).bind fun r =>
  (rrun Tryz.prog (Instr.loadAt 137 r5.1) r.2).bind fun v15 =>
  (xrun Tryz.prog (callFunc 77 #[v15]) r.2).bind fun r16 =>
  (imethod Tryz.prog r16.1 "Kind" r16.2).bind fun m18 =>
  (call m18.1 #[m18.2] r16.2).bind fun r18 =>
  (bin .neq r18.1 (Value.int IntKind.u8 22)).bind fun v19 =>
  (asB v19).bind fun b20 =>
  (if b20 = false then (rrun Tryz.prog (Instr.loadAt 137 r5.1) r18.2).bind fun v21 =>
    (xrun Tryz.prog (callFunc 78 #[v21]) r18.2).bind fun r22 =>
    some (r22.1, r22.2)
   else some ((Value.bool true), r18.2)).bind fun r23 =>
  (asB r23.1).bind fun c23 =>
  (if c23 then
    (prun Tryz.prog (Instr.makeInterface 9 (Value.string { data := #[101, 114, 114, 111, 114, 115, 58, 32, 116, 97, 114, 103, 101, 116, 32, 109, 117, 115, 116, 32, 98, 101, 32, 97, 32, 110, 111, 110, 45, 110, 105, 108, 32, 112, 111, 105, 110, 116, 101, 114] }))).bind fun v24 =>
    none
   else
    some (Res.norm [err0_1, target1_1, r5.1, r16.1] r23.2)).bind fun (r : Res) => r.cont fun vs_1 W2 =>
  let err0_2 := nth vs_1 0
  let target1_2 := nth vs_1 1
  let val5 := nth vs_1 2
  let typ6 := nth vs_1 3
  (imethod Tryz.prog typ6 "Elem" W2).bind fun m26 =>
  (call m26.1 #[m26.2] W2).bind fun r26 =>
  (imethod Tryz.prog r26.1 "Kind" r26.2).bind fun m28 =>
  (call m28.1 #[m28.2] r26.2).bind fun r28 =>
  (bin .neq r28.1 (Value.int IntKind.u8 20)).bind fun v29 =>
  (asB v29).bind fun b30 =>
  (if b30 = true then (rrun Tryz.prog (Instr.loadAt 108 (.pointer (some ⟨0, 0, none⟩))) r28.2).bind fun v32 =>
    (imethod Tryz.prog r26.1 "Implements" r28.2).bind fun m33 =>
    (call m33.1 #[m33.2, v32] r28.2).bind fun r33 =>
    (prun Tryz.prog (Op.unary .not r33.1)).bind fun v34 =>
    some (v34, r33.2)
   else some ((Value.bool false), r28.2)).bind fun r35 =>
  (asB r35.1).bind fun c35 =>
  (if c35 then
    (prun Tryz.prog (Instr.makeInterface 9 (Value.string { data := #[101, 114, 114, 111, 114, 115, 58, 32, 42, 116, 97, 114, 103, 101, 116, 32, 109, 117, 115, 116, 32, 98, 101, 32, 105, 110, 116, 101, 114, 102, 97, 99, 101, 32, 111, 114, 32, 105, 109, 112, 108, 101, 109, 101, 110, 116, 32, 101, 114, 114, 111, 114] }))).bind fun v36 =>
    none
   else
    some (Res.norm [err0_2, target1_2, val5, r26.1] r35.2)).bind fun (r : Res) => r.cont fun vs_2 W3 =>
  let err0_3 := nth vs_2 0
  let target1_3 := nth vs_2 1
  let val5_1 := nth vs_2 2
  let targetType7 := nth vs_2 3
  (rrun Tryz.prog (Instr.loadAt 137 val5_1) W3).bind fun v39 =>
  (call 79 #[err0_3, target1_3, v39, targetType7] W3).bind fun r41 =>
  some (Res.ret [r41.1] r41.2)).bind Res.done
theorem f34.eq (call dfr : CallF) (err0 : Value) (target1 : Value) (W0 : World) : aFun Tryz.prog call dfr Tryz.f34 f34.ann (ofArgs #[err0, target1]) W0 = f34 call err0 target1 W0 := by kernel_rfl

/-- dailies/timecode.PerDay -/
def f37.ann : Ann := (.s .z (.s .z (.s (.s .z (.c (.s .z .z) .z)) (.s .z .z))))
noncomputable def f37 (call : CallF) (r0 : Value) (W0 : World) : Option (Value × World) :=
  ((call 80 #[r0] W0).bind fun r8 =>
  (prun Tryz.prog (Instr.extract r8.1 0)).bind fun v9 =>
  (prun Tryz.prog (Instr.extract r8.1 1)).bind fun v10 =>
  (erun Tryz.prog (Instr.alloc 145 true (.tuple #[])) r8.2).bind fun r4 =>
  (erun Tryz.prog (Instr.storeAt 145 r4.1 v9) r4.2).bind fun r =>
  (prun Tryz.prog (Op.unary .not v10)).bind fun v12 =>
  (asB v12).bind fun c12 =>
  if c12 then
    some (Res.ret [(Value.int IntKind.i64 0), (Value.int IntKind.i64 181)] r.2)
  else
  (rrun Tryz.prog (Instr.loadAt 145 r4.1) r.2).bind fun v13 =>
  (call 81 #[v13] r.2).bind fun r14 =>
  some (Res.ret [r14.1, (Value.int IntKind.i64 0)] r14.2)).bind Res.done
theorem f37.eq (call dfr : CallF) (r0 : Value) (W0 : World) : aFun Tryz.prog call dfr Tryz.f37 f37.ann (ofArgs #[r0]) W0 = f37 call r0 W0 := by kernel_rfl

/-- dailies/cuts.wrong -/
def f38.ann : Ann := (.s .z (.s .z .z))
noncomputable def f38 (call : CallF) (event0 : Value) (e1 : Value) (W0 : World) : Option (Value × World) :=
  ((prun Tryz.prog (Instr.build 101 #[(0, event0), (1, e1)])).bind fun v7 =>
  (erun Tryz.prog (Instr.box 101 v7) W0).bind fun r8 =>
  (prun Tryz.prog (Instr.makeInterface 99 r8.1)).bind fun v9 =>
  some (Res.ret [v9] r8.2)).bind Res.done
theorem f38.eq (call dfr : CallF) (event0 : Value) (e1 : Value) (W0 : World) : aFun Tryz.prog call dfr Tryz.f38 f38.ann (ofArgs #[event0, e1]) W0 = f38 call event0 e1 W0 := by kernel_rfl

/-- unicode/utf8.ValidString -/
def f39.ann : Ann := (.s .z (.s (.b [] (.l [0] (.s (.s .z (.c .z .z)) (.b [0] (.s .z (.s (.s .z (.c (.s .z (.s (.s .z (.j [0] (.s .z (.s .z (.c (.s .z (.b [0] (.l [0] (.s (.s .z (.c .z .z)) (.b [0] .z))))) .z))) .z)) .z)) .z)) (.s .z (.s .z (.s .z (.s .z (.b [0] (.s .z (.c (.s (.s .z (.c (.s .z .z) .z)) .z) (.s .z (.c (.s (.s .z (.c (.s .z .z) .z)) .z) (.s .z (.c (.s (.s .z (.c (.s .z .z) .z)) .z) (.s .z .z)))))))))))))))))) (.s .z .z)))
noncomputable def f39.l0 (call : CallF) (vs_1 : List Value) (W2 : World) : Option Res :=
  let t0_2 := nth vs_1 0
  ((prun Tryz.prog (Builtin.len_ #[9] 3 #[t0_2])).bind fun v43 =>
  some (v43, W2.drew)).bind fun r43 =>
  ((bin .gtr r43.1 (Value.int IntKind.i64 32)).bind fun v44 =>
  some (v44, r43.2)).bind fun r44 =>
  (if wantedV true r44.1 = true then some (t0_2, r44.2) else some (undef, r44.2)).bind fun r46 =>
  (if wantedV true r44.1 = true then (call 82 #[r46.1] r46.2).bind fun r47_1 =>
  some (r47_1.1, r47_1.2) else some (undef, r46.2)).bind fun r47 =>
  (if wantedV true r44.1 = true then some (t0_2, r47.2) else some (undef, r47.2)).bind fun r48 =>
  (if wantedV true r44.1 = true then (prun Tryz.prog (Instr.sliceAt 9 r48.1 (some (Value.int IntKind.i64 8)) none none)).bind fun v49 =>
  some (v49, r48.2) else some (undef, r48.2)).bind fun r49 =>
  (if wantedV true r44.1 = true then (call 82 #[r49.1] r49.2).bind fun r50_1 =>
  some (r50_1.1, r50_1.2) else some (undef, r49.2)).bind fun r50 =>
  (if wantedV true r44.1 = true then (prun Tryz.prog (do eqGuard .or 12 (Operand.tmp 47) (Operand.tmp 50) r47.1 r50.1; binOp .or 12 r47.1 r50.1)).bind fun v51 =>
  some (v51, r50.2) else some (undef, r50.2)).bind fun r51 =>
  (if wantedV true r44.1 = true then some (t0_2, r51.2) else some (undef, r51.2)).bind fun r52 =>
  (if wantedV true r44.1 = true then (prun Tryz.prog (Instr.sliceAt 9 r52.1 (some (Value.int IntKind.i64 16)) none none)).bind fun v53 =>
  some (v53, r52.2) else some (undef, r52.2)).bind fun r53 =>
  (if wantedV true r44.1 = true then (call 82 #[r53.1] r53.2).bind fun r54_1 =>
  some (r54_1.1, r54_1.2) else some (undef, r53.2)).bind fun r54 =>
  (if wantedV true r44.1 = true then some (t0_2, r54.2) else some (undef, r54.2)).bind fun r55 =>
  (if wantedV true r44.1 = true then (prun Tryz.prog (Instr.sliceAt 9 r55.1 (some (Value.int IntKind.i64 24)) none none)).bind fun v56 =>
  some (v56, r55.2) else some (undef, r55.2)).bind fun r56 =>
  (if wantedV true r44.1 = true then (call 82 #[r56.1] r56.2).bind fun r57_1 =>
  some (r57_1.1, r57_1.2) else some (undef, r56.2)).bind fun r57 =>
  (if wantedV true r44.1 = true then (prun Tryz.prog (do eqGuard .or 12 (Operand.tmp 54) (Operand.tmp 57) r54.1 r57.1; binOp .or 12 r54.1 r57.1)).bind fun v58 =>
  some (v58, r57.2) else some (undef, r57.2)).bind fun r58 =>
  (if wantedV true r44.1 = true then (prun Tryz.prog (do eqGuard .or 12 (Operand.tmp 51) (Operand.tmp 58) r51.1 r58.1; binOp .or 12 r51.1 r58.1)).bind fun v59 =>
  some (v59, r58.2) else some (undef, r58.2)).bind fun r59 =>
  (if wantedV true r44.1 = true then (prun Tryz.prog (do eqGuard .and 12 (Operand.tmp 59) (Operand.const (Value.int IntKind.u64 9259542123273814144)) r59.1 (Value.int IntKind.u64 9259542123273814144); binOp .and 12 r59.1 (Value.int IntKind.u64 9259542123273814144))).bind fun v60 =>
  some (v60, r59.2) else some (undef, r59.2)).bind fun r60 =>
  (if wantedV true r44.1 = true then (bin .eql r60.1 (Value.int IntKind.u64 0)).bind fun v61 =>
  some (v61, r60.2) else some (undef, r60.2)).bind fun r61 =>
  ((pickV r44.1 r61.1 (Value.bool false)).bind fun v62 =>
  some (v62, r61.2)).bind fun r62 =>
  chkThen (True)
  ((asB r62.1).bind fun c62 =>
  if c62 then
    ((prun Tryz.prog (Instr.sliceAt 9 t0_2 (some (Value.int IntKind.i64 32)) none none)).bind fun v64 =>
    some (Res.norm [v64] r62.2)).bind fun (r : Res) => (r.unblock 3).cont fun vs_2 W3 =>
    let t0_3 := nth vs_2 0
    some (Res.norm [t0_3] W3)
  else
  some (Res.exit 2 [t0_2] r62.2))
noncomputable def f39.l1 (call : CallF) (vs : List Value) (W1 : World) : Option Res :=
  let t0_1 := nth vs 0
  (prun Tryz.prog (Builtin.len_ #[9] 3 #[t0_1])).bind fun v8 =>
  (bin .gtr v8 (Value.int IntKind.i64 0)).bind fun v9 =>
  (asB v9).bind fun c9 =>
  if c9 then
    ((prun Tryz.prog (Instr.index 9 t0_1 (Value.int IntKind.i64 0))).bind fun v11 =>
    (bin .lss v11 (Value.int IntKind.u8 128)).bind fun v13 =>
    (asB v13).bind fun c13 =>
    if c13 then
      (prun Tryz.prog (Instr.sliceAt 9 t0_1 (some (Value.int IntKind.i64 1)) none none)).bind fun v15 =>
      (prun Tryz.prog (Builtin.len_ #[9] 3 #[v15])).bind fun v17 =>
      (bin .gtr v17 (Value.int IntKind.i64 8)).bind fun v18 =>
      (asB v18).bind fun b19 =>
      (if b19 = true then (call 82 #[v15] W1).bind fun r21 =>
        (prun Tryz.prog (do eqGuard .and 12 (Operand.tmp 21) (Operand.const (Value.int IntKind.u64 9259542123273814144)) r21.1 (Value.int IntKind.u64 9259542123273814144); binOp .and 12 r21.1 (Value.int IntKind.u64 9259542123273814144))).bind fun v22 =>
        (bin .eql v22 (Value.int IntKind.u64 0)).bind fun v23 =>
        some (v23, r21.2)
       else some ((Value.bool false), W1)).bind fun r24 =>
      (asB r24.1).bind fun c24 =>
      (if c24 then
        (prun Tryz.prog (Instr.sliceAt 9 v15 (some (Value.int IntKind.i64 8)) none none)).bind fun v26 =>
        ((prun Tryz.prog (Builtin.len_ #[9] 3 #[v26])).bind fun v28 =>
        some (v28, r24.2.drew)).bind fun r28 =>
        ((bin .gtr r28.1 (Value.int IntKind.i64 16)).bind fun v29 =>
        some (v29, r28.2)).bind fun r29 =>
        (if wantedV true r29.1 = true then some (v26, r29.2) else some (undef, r29.2)).bind fun r31 =>
        (if wantedV true r29.1 = true then (call 82 #[r31.1] r31.2).bind fun r32_1 =>
        some (r32_1.1, r32_1.2) else some (undef, r31.2)).bind fun r32 =>
        (if wantedV true r29.1 = true then some (v26, r32.2) else some (undef, r32.2)).bind fun r33 =>
        (if wantedV true r29.1 = true then (prun Tryz.prog (Instr.sliceAt 9 r33.1 (some (Value.int IntKind.i64 8)) none none)).bind fun v34 =>
        some (v34, r33.2) else some (undef, r33.2)).bind fun r34 =>
        (if wantedV true r29.1 = true then (call 82 #[r34.1] r34.2).bind fun r35_1 =>
        some (r35_1.1, r35_1.2) else some (undef, r34.2)).bind fun r35 =>
        (if wantedV true r29.1 = true then (prun Tryz.prog (do eqGuard .or 12 (Operand.tmp 32) (Operand.tmp 35) r32.1 r35.1; binOp .or 12 r32.1 r35.1)).bind fun v36 =>
        some (v36, r35.2) else some (undef, r35.2)).bind fun r36 =>
        (if wantedV true r29.1 = true then (prun Tryz.prog (do eqGuard .and 12 (Operand.tmp 36) (Operand.const (Value.int IntKind.u64 9259542123273814144)) r36.1 (Value.int IntKind.u64 9259542123273814144); binOp .and 12 r36.1 (Value.int IntKind.u64 9259542123273814144))).bind fun v37 =>
        some (v37, r36.2) else some (undef, r36.2)).bind fun r37 =>
        (if wantedV true r29.1 = true then (bin .eql r37.1 (Value.int IntKind.u64 0)).bind fun v38 =>
        some (v38, r37.2) else some (undef, r37.2)).bind fun r38 =>
        ((pickV r29.1 r38.1 (Value.bool false)).bind fun v39 =>
        some (v39, r38.2)).bind fun r39 =>
        chkThen (True)
        ((asB r39.1).bind fun c39 =>
        if c39 then
          (prun Tryz.prog (Instr.sliceAt 9 v26 (some (Value.int IntKind.i64 16)) none none)).bind fun v41 =>
          (iter (f39.l0 call) [v41] r39.2).bind fun (r : Res) => (r.unblock 2).cont fun vs_3 W4 =>
          let t0_4 := nth vs_3 0
          some (Res.norm [t0_4] W4)
        else
        some (Res.norm [v26] r39.2))
       else
        some (Res.norm [v15] r24.2)).bind fun (r : Res) => r.cont fun vs_4 W5 =>
      let t0_5 := nth vs_4 0
      some (Res.exit 1 [t0_5] W5)
    else
    (prun Tryz.prog (Instr.indexAt 150 (.pointer (some ⟨1, 0, none⟩)) v11)).bind fun v66 =>
    (rrun Tryz.prog (Instr.loadAt 5 v66) W1).bind fun v67 =>
    (prun Tryz.prog (do eqGuard .and 5 (Operand.tmp 68) (Operand.const (Value.int IntKind.u8 7)) v67 (Value.int IntKind.u8 7); binOp .and 5 v67 (Value.int IntKind.u8 7))).bind fun v69 =>
    (prun Tryz.prog (convert 5 3 v69)).bind fun v70 =>
    (prun Tryz.prog (do eqGuard .shr 5 (Operand.tmp 71) (Operand.const (Value.int IntKind.u64 4)) v67 (Value.int IntKind.u64 4); binOp .shr 5 v67 (Value.int IntKind.u64 4))).bind fun v72 =>
    (prun Tryz.prog (Instr.indexAt 153 (.pointer (some ⟨2, 0, none⟩)) v72)).bind fun v73 =>
    (rrun Tryz.prog (Instr.loadAt 152 v73) W1).bind fun v74 =>
    (erun Tryz.prog (Instr.alloc 152 true (.tuple #[])) W1).bind fun r6 =>
    (erun Tryz.prog (Instr.storeAt 152 r6.1 v74) r6.2).bind fun r =>
    ((bin .eql v70 (Value.int IntKind.i64 2)).bind fun v77 =>
    (asB v77).bind fun c76 =>
    if c76 then
      (prun Tryz.prog (Builtin.len_ #[9] 3 #[t0_1])).bind fun v79 =>
      (bin .lss v79 (Value.int IntKind.i64 2)).bind fun v80 =>
      (asB v80).bind fun b81 =>
      (if b81 = false then (prun Tryz.prog (Instr.index 9 t0_1 (Value.int IntKind.i64 1))).bind fun v83 =>
        (prun Tryz.prog (Instr.fieldAt 152 r6.1 0)).bind fun v84 =>
        (rrun Tryz.prog (Instr.loadAt 5 v84) r.2.drew).bind fun v85 =>
        (bin .lss v83 v85).bind fun v86 =>
        some (v86, r.2.drew)
       else some ((Value.bool true), r.2.drew)).bind fun r87 =>
      (asB r87.1).bind fun b88 =>
      (if b88 = false then (prun Tryz.prog (Instr.fieldAt 152 r6.1 1)).bind fun v89 =>
        (rrun Tryz.prog (Instr.loadAt 5 v89) r87.2).bind fun v90 =>
        (prun Tryz.prog (Instr.index 9 t0_1 (Value.int IntKind.i64 1))).bind fun v92 =>
        (bin .lss v90 v92).bind fun v93 =>
        some (v93, r87.2)
       else some ((Value.bool true), r87.2)).bind fun r94 =>
      (asB r94.1).bind fun c94 =>
      if c94 then
        some (Res.ret [(Value.bool false)] r94.2)
      else
      (prun Tryz.prog (Instr.sliceAt 9 t0_1 (some (Value.int IntKind.i64 2)) none none)).bind fun v96 =>
      some (Res.norm [v96] r94.2)
    else
    (bin .eql v70 (Value.int IntKind.i64 3)).bind fun v98 =>
    (asB v98).bind fun c97 =>
    if c97 then
      (prun Tryz.prog (Builtin.len_ #[9] 3 #[t0_1])).bind fun v100 =>
      (bin .lss v100 (Value.int IntKind.i64 3)).bind fun v101 =>
      (asB v101).bind fun b102 =>
      (if b102 = false then (prun Tryz.prog (Instr.index 9 t0_1 (Value.int IntKind.i64 1))).bind fun v104 =>
        (prun Tryz.prog (Instr.fieldAt 152 r6.1 0)).bind fun v105 =>
        (rrun Tryz.prog (Instr.loadAt 5 v105) r.2.drew).bind fun v106 =>
        (bin .lss v104 v106).bind fun v107 =>
        some (v107, r.2.drew)
       else some ((Value.bool true), r.2.drew)).bind fun r108 =>
      (asB r108.1).bind fun b109 =>
      (if b109 = false then (prun Tryz.prog (Instr.fieldAt 152 r6.1 1)).bind fun v110 =>
        (rrun Tryz.prog (Instr.loadAt 5 v110) r108.2).bind fun v111 =>
        (prun Tryz.prog (Instr.index 9 t0_1 (Value.int IntKind.i64 1))).bind fun v113 =>
        (bin .lss v111 v113).bind fun v114 =>
        some (v114, r108.2)
       else some ((Value.bool true), r108.2)).bind fun r115 =>
      (asB r115.1).bind fun b116 =>
      (if b116 = false then (prun Tryz.prog (Instr.index 9 t0_1 (Value.int IntKind.i64 2))).bind fun v118 =>
        (bin .lss v118 (Value.int IntKind.u8 128)).bind fun v119 =>
        some (v119, r115.2)
       else some ((Value.bool true), r115.2)).bind fun r120 =>
      (asB r120.1).bind fun b121 =>
      (if b121 = false then (prun Tryz.prog (Instr.index 9 t0_1 (Value.int IntKind.i64 2))).bind fun v123 =>
        (bin .lss (Value.int IntKind.u8 191) v123).bind fun v124 =>
        some (v124, r120.2)
       else some ((Value.bool true), r120.2)).bind fun r125 =>
      (asB r125.1).bind fun c125 =>
      if c125 then
        some (Res.ret [(Value.bool false)] r125.2)
      else
      (prun Tryz.prog (Instr.sliceAt 9 t0_1 (some (Value.int IntKind.i64 3)) none none)).bind fun v127 =>
      some (Res.norm [v127] r125.2)
    else
    (bin .eql v70 (Value.int IntKind.i64 4)).bind fun v129 =>
    (asB v129).bind fun c128 =>
    if c128 then
      (prun Tryz.prog (Builtin.len_ #[9] 3 #[t0_1])).bind fun v131 =>
      (bin .lss v131 (Value.int IntKind.i64 4)).bind fun v132 =>
      (asB v132).bind fun b133 =>
      (if b133 = false then (prun Tryz.prog (Instr.index 9 t0_1 (Value.int IntKind.i64 1))).bind fun v135 =>
        (prun Tryz.prog (Instr.fieldAt 152 r6.1 0)).bind fun v136 =>
        (rrun Tryz.prog (Instr.loadAt 5 v136) r.2.drew).bind fun v137 =>
        (bin .lss v135 v137).bind fun v138 =>
        some (v138, r.2.drew)
       else some ((Value.bool true), r.2.drew)).bind fun r139 =>
      (asB r139.1).bind fun b140 =>
      (if b140 = false then (prun Tryz.prog (Instr.fieldAt 152 r6.1 1)).bind fun v141 =>
        (rrun Tryz.prog (Instr.loadAt 5 v141) r139.2).bind fun v142 =>
        (prun Tryz.prog (Instr.index 9 t0_1 (Value.int IntKind.i64 1))).bind fun v144 =>
        (bin .lss v142 v144).bind fun v145 =>
        some (v145, r139.2)
       else some ((Value.bool true), r139.2)).bind fun r146 =>
      (asB r146.1).bind fun b147 =>
      (if b147 = false then (prun Tryz.prog (Instr.index 9 t0_1 (Value.int IntKind.i64 2))).bind fun v149 =>
        (bin .lss v149 (Value.int IntKind.u8 128)).bind fun v150 =>
        some (v150, r146.2)
       else some ((Value.bool true), r146.2)).bind fun r151 =>
      (asB r151.1).bind fun b152 =>
      (if b152 = false then (prun Tryz.prog (Instr.index 9 t0_1 (Value.int IntKind.i64 2))).bind fun v154 =>
        (bin .lss (Value.int IntKind.u8 191) v154).bind fun v155 =>
        some (v155, r151.2)
       else some ((Value.bool true), r151.2)).bind fun r156 =>
      (asB r156.1).bind fun b157 =>
      (if b157 = false then (prun Tryz.prog (Instr.index 9 t0_1 (Value.int IntKind.i64 3))).bind fun v159 =>
        (bin .lss v159 (Value.int IntKind.u8 128)).bind fun v160 =>
        some (v160, r156.2)
       else some ((Value.bool true), r156.2)).bind fun r161 =>
      (asB r161.1).bind fun b162 =>
      (if b162 = false then (prun Tryz.prog (Instr.index 9 t0_1 (Value.int IntKind.i64 3))).bind fun v164 =>
        (bin .lss (Value.int IntKind.u8 191) v164).bind fun v165 =>
        some (v165, r161.2)
       else some ((Value.bool true), r161.2)).bind fun r166 =>
      (asB r166.1).bind fun c166 =>
      if c166 then
        some (Res.ret [(Value.bool false)] r166.2)
      else
      (prun Tryz.prog (Instr.sliceAt 9 t0_1 (some (Value.int IntKind.i64 4)) none none)).bind fun v168 =>
      some (Res.norm [v168] r166.2)
    else
    some (Res.ret [(Value.bool false)] r.2)).bind fun (r : Res) => (r.unblock 4).cont fun vs_5 W6 =>
    let t0_6 := nth vs_5 0
    some (Res.norm [t0_6] W6)).bind fun (r : Res) => (r.unblock 1).cont fun vs_6 W7 =>
    let t0_7 := nth vs_6 0
    some (Res.norm [t0_7] W7)
  else
  some (Res.exit 0 [] W1)
noncomputable def f39 (call : CallF) (t0 : Value) (W0 : World) : Option (Value × World) :=
  ((iter (f39.l1 call) [t0] W0).bind fun (r : Res) => (r.unblock 0).cont fun vs_7 W8 =>
  some (Res.ret [(Value.bool true)] W8)).bind Res.done
theorem f39.eq (call dfr : CallF) (t0 : Value) (W0 : World) : aFun Tryz.prog call dfr Tryz.f39 f39.ann (ofArgs #[t0]) W0 = f39 call t0 W0 := by kernel_rfl

/-- dailies/cuts.checkEvent -/
def f40.ann : Ann := (.s .z (.s (.b [] (.s .z (.c (.s .z .z) (.s .z (.c (.s .z .z) (.s .z (.c (.s .z .z) (.s .z (.c (.s .z .z) (.s .z (.c (.s .z .z) .z))))))))))) (.s .z .z)))
noncomputable def f40 (call : CallF) (ahead0 : Value) (e1 : Value) (day2 : Value) (W0 : World) : Option (Value × World) :=
  ((erun Tryz.prog (Instr.box 51 e1) W0).bind fun r4 =>
  ((prun Tryz.prog (Instr.fieldAt 51 r4.1 0)).bind fun v8 =>
  (rrun Tryz.prog (Instr.loadAt 9 v8) r4.2).bind fun v9 =>
  (call 67 #[v9] r4.2).bind fun r10 =>
  (prun Tryz.prog (Op.unary .not r10.1)).bind fun v11 =>
  (asB v11).bind fun c7 =>
  if c7 then
    some (Res.ret [(Value.int IntKind.i64 193)] r10.2)
  else
  (prun Tryz.prog (Instr.fieldAt 51 r4.1 1)).bind fun v13 =>
  (rrun Tryz.prog (Instr.loadAt 3 v13) r10.2).bind fun v14 =>
  (bin .lss v14 (Value.int IntKind.i64 0)).bind fun v15 =>
  (asB v15).bind fun b16 =>
  (if b16 = false then (prun Tryz.prog (Instr.fieldAt 51 r4.1 1)).bind fun v17 =>
    (rrun Tryz.prog (Instr.loadAt 3 v17) r10.2).bind fun v18 =>
    (prun Tryz.prog (Instr.fieldAt 51 r4.1 2)).bind fun v19 =>
    (rrun Tryz.prog (Instr.loadAt 3 v19) r10.2).bind fun v20 =>
    (bin .geq v18 v20).bind fun v21 =>
    some (v21, r10.2)
   else some ((Value.bool true), r10.2)).bind fun r22 =>
  (asB r22.1).bind fun b23 =>
  (if b23 = false then (prun Tryz.prog (Instr.fieldAt 51 r4.1 2)).bind fun v24 =>
    (rrun Tryz.prog (Instr.loadAt 3 v24) r22.2).bind fun v25 =>
    (bin .geq v25 day2).bind fun v27 =>
    some (v27, r22.2)
   else some ((Value.bool true), r22.2)).bind fun r28 =>
  (asB r28.1).bind fun c12 =>
  if c12 then
    some (Res.ret [(Value.int IntKind.i64 194)] r28.2)
  else
  (rrun Tryz.prog (Instr.loadAt 51 r4.1) r28.2).bind fun v31 =>
  (call 83 #[ahead0, v31] r28.2).bind fun r32 =>
  (prun Tryz.prog (Op.unary .not r32.1)).bind fun v33 =>
  (asB v33).bind fun c29 =>
  if c29 then
    some (Res.ret [(Value.int IntKind.i64 195)] r32.2)
  else
  (prun Tryz.prog (Instr.fieldAt 51 r4.1 4)).bind fun v35 =>
  (rrun Tryz.prog (Instr.loadAt 9 v35) r32.2).bind fun v36 =>
  (prun Tryz.prog (Builtin.len_ #[9] 3 #[v36])).bind fun v37 =>
  (bin .gtr v37 (Value.int IntKind.i64 100)).bind fun v38 =>
  (asB v38).bind fun c34 =>
  if c34 then
    some (Res.ret [(Value.int IntKind.i64 191)] r32.2)
  else
  (prun Tryz.prog (Instr.fieldAt 51 r4.1 4)).bind fun v40 =>
  (rrun Tryz.prog (Instr.loadAt 9 v40) r32.2).bind fun v41 =>
  (call 39 #[v41] r32.2).bind fun r42 =>
  (prun Tryz.prog (Op.unary .not r42.1)).bind fun v43 =>
  (asB v43).bind fun c39 =>
  if c39 then
    some (Res.ret [(Value.int IntKind.i64 192)] r42.2)
  else
  some (Res.norm [] r42.2)).bind fun (r : Res) => (r.unblock 0).cont fun vs W1 =>
  some (Res.ret [(Value.int IntKind.i64 0)] W1)).bind Res.done
theorem f40.eq (call dfr : CallF) (ahead0 : Value) (e1 : Value) (day2 : Value) (W0 : World) : aFun Tryz.prog call dfr Tryz.f40 f40.ann (ofArgs #[ahead0, e1, day2]) W0 = f40 call ahead0 e1 day2 W0 := by kernel_rfl

/-- dailies/cuts.frames -/
def f46.ann : Ann := (.s .z (.s .z .z))
noncomputable def f46 (call : CallF) (e0 : Value) (W0 : World) : Option (Value × World) :=
  ((erun Tryz.prog (Instr.box 51 e0) W0).bind fun r1 =>
  (prun Tryz.prog (Instr.fieldAt 51 r1.1 2)).bind fun v3 =>
  (rrun Tryz.prog (Instr.loadAt 3 v3) r1.2).bind fun v4 =>
  (prun Tryz.prog (Instr.fieldAt 51 r1.1 1)).bind fun v5 =>
  (rrun Tryz.prog (Instr.loadAt 3 v5) r1.2).bind fun v6 =>
  (bin .sub v4 v6).bind fun v7 =>
  some (Res.ret [v7] r1.2)).bind Res.done
theorem f46.eq (call dfr : CallF) (e0 : Value) (W0 : World) : aFun Tryz.prog call dfr Tryz.f46 f46.ann (ofArgs #[e0]) W0 = f46 call e0 W0 := by kernel_rfl

/-- dailies/cuts.rateName -/
def f49.ann : Ann := (.s .z (.s (.s .z (.b [] (.s .z (.c (.s .z .z) (.s .z (.c (.s .z .z) (.s .z (.c (.s .z .z) (.s .z (.c (.s .z .z) (.s .z (.c (.s .z .z) (.s .z (.c (.s .z .z) (.s .z (.c (.s .z .z) .z)))))))))))))))) (.s .z .z)))
noncomputable def f49 (call : CallF) (r0 : Value) (W0 : World) : Option (Value × World) :=
  (((bin .eql r0 (Value.int IntKind.i64 1)).bind fun v5 =>
  (asB v5).bind fun c4 =>
  if c4 then
    some (Res.ret [(Value.string { data := #[50, 52] })] W0)
  else
  (bin .eql r0 (Value.int IntKind.i64 2)).bind fun v7 =>
  (asB v7).bind fun c6 =>
  if c6 then
    some (Res.ret [(Value.string { data := #[50, 53] })] W0)
  else
  (bin .eql r0 (Value.int IntKind.i64 3)).bind fun v9 =>
  (asB v9).bind fun c8 =>
  if c8 then
    some (Res.ret [(Value.string { data := #[51, 48] })] W0)
  else
  (bin .eql r0 (Value.int IntKind.i64 4)).bind fun v11 =>
  (asB v11).bind fun c10 =>
  if c10 then
    some (Res.ret [(Value.string { data := #[51, 48, 100] })] W0)
  else
  (bin .eql r0 (Value.int IntKind.i64 5)).bind fun v13 =>
  (asB v13).bind fun c12 =>
  if c12 then
    some (Res.ret [(Value.string { data := #[53, 48] })] W0)
  else
  (bin .eql r0 (Value.int IntKind.i64 6)).bind fun v15 =>
  (asB v15).bind fun c14 =>
  if c14 then
    some (Res.ret [(Value.string { data := #[54, 48] })] W0)
  else
  (bin .eql r0 (Value.int IntKind.i64 7)).bind fun v17 =>
  (asB v17).bind fun c16 =>
  if c16 then
    some (Res.ret [(Value.string { data := #[54, 48, 100] })] W0)
  else
  some (Res.norm [] W0)).bind fun (r : Res) => (r.unblock 0).cont fun vs W1 =>
  some (Res.ret [(Value.string { data := #[] })] W1)).bind Res.done
theorem f49.eq (call dfr : CallF) (r0 : Value) (W0 : World) : aFun Tryz.prog call dfr Tryz.f49 f49.ann (ofArgs #[r0]) W0 = f49 call r0 W0 := by kernel_rfl

/-- dailies/cuts.quoted -/
def f50.ann : Ann := (.s .z (.s .z (.s (.s .z (.b [3] (.l [3, 8] (.s .z (.s (.c .z .z) (.b [3, 8] (.s .z (.s .z (.b [3, 8] (.s (.s .z (.j [3, 5, 8, 12, 16] .z .z)) (.c .z (.s .z (.c .z .z))))))))))))) (.s .z .z))))
noncomputable def f50.l0 (call : CallF) (vs : List Value) (W1 : World) : Option Res :=
  let out3 := nth vs 0
  let v8 := nth vs 1
  (erun Tryz.prog (Instr.next v8 true 0) W1).bind fun r9 =>
  (prun Tryz.prog (Instr.extract r9.1 0)).bind fun v10 =>
  (asB v10).bind fun c10 =>
  if c10 then
    ((prun Tryz.prog (Instr.extract r9.1 2)).bind fun v11 =>
    ((bin .eql v11 (Value.int IntKind.i32 34)).bind fun v17 =>
    (asB v17).bind fun c16 =>
    (if c16 then
      some (Res.norm [out3, v11, v8, v11, v17] r9.2)
     else
      (bin .eql v11 (Value.int IntKind.i32 92)).bind fun v18 =>
      some (Res.norm [out3, v11, v8, v11, v18] r9.2)).bind fun (r : Res) => r.cont fun vs_1 W2 =>
    let out3_1 := nth vs_1 0
    let r5 := nth vs_1 1
    let v8_1 := nth vs_1 2
    let v12 := nth vs_1 3
    let v16 := nth vs_1 4
    (asB v16).bind fun c16_1 =>
    if c16_1 then
      (prun Tryz.prog (convert 21 5 r5)).bind fun v21 =>
      (erun Tryz.prog (Instr.buildSlice 160 2 #[(0, (Value.int IntKind.u8 92)), (1, v21)]) W2).bind fun r22 =>
      (erun Tryz.prog (Builtin.append_ #[160, 160] 160 #[out3_1, r22.1]) r22.2).bind fun r23 =>
      some (Res.norm [r23.1, v8_1] r23.2)
    else
    (bin .eql v12 (Value.int IntKind.i32 10)).bind fun v25 =>
    (asB v25).bind fun c24 =>
    if c24 then
      (erun Tryz.prog (Instr.buildSlice 160 2 #[(0, (Value.int IntKind.u8 92)), (1, (Value.int IntKind.u8 110))]) W2).bind fun r27 =>
      (erun Tryz.prog (Builtin.append_ #[160, 160] 160 #[out3_1, r27.1]) r27.2).bind fun r28 =>
      some (Res.norm [r28.1, v8_1] r28.2)
    else
    (call 89 #[out3_1, r5] W2).bind fun r15 =>
    some (Res.norm [r15.1, v8_1] r15.2)).bind fun (r : Res) => (r.unblock 2).cont fun vs_2 W3 =>
    let out3_2 := nth vs_2 0
    let v8_2 := nth vs_2 1
    some (Res.norm [out3_2, v8_2] W3)).bind fun (r : Res) => (r.unblock 1).cont fun vs_3 W4 =>
    let out3_3 := nth vs_3 0
    let v8_3 := nth vs_3 1
    some (Res.norm [out3_3, v8_3] W4)
  else
  some (Res.exit 0 [out3] r9.2)
noncomputable def f50 (call : CallF) (s0 : Value) (W0 : World) : Option (Value × World) :=
  ((erun Tryz.prog (Instr.buildSlice 160 1 #[(0, (Value.int IntKind.u8 34))]) W0).bind fun r6 =>
  (erun Tryz.prog (Instr.range 9 s0) r6.2).bind fun r8 =>
  (iter (f50.l0 call) [r6.1, r8.1] r8.2).bind fun (r : Res) => (r.unblock 0).cont fun vs_4 W5 =>
  let out3_4 := nth vs_4 0
  (erun Tryz.prog (Instr.buildSlice 160 1 #[(0, (Value.int IntKind.u8 34))]) W5).bind fun r30 =>
  (erun Tryz.prog (Builtin.append_ #[160, 160] 160 #[out3_4, r30.1]) r30.2).bind fun r31 =>
  (rrun Tryz.prog (convert 160 9 r31.1) r31.2).bind fun v32 =>
  some (Res.ret [v32] r31.2)).bind Res.done
theorem f50.eq (call dfr : CallF) (s0 : Value) (W0 : World) : aFun Tryz.prog call dfr Tryz.f50 f50.ann (ofArgs #[s0]) W0 = f50 call s0 W0 := by kernel_rfl

/-- dailies/cuts.line -/
def f51.ann : Ann := (.s .z (.s .z (.s .z (.s .z (.s (.s .z (.j [2, 5, 7, 9] .z .z)) (.s .z (.s (.s .z (.j [9] .z .z)) (.s .z .z))))))))
noncomputable def f51 (call : CallF) (e0 : Value) (r1 : Value) (W0 : World) : Option (Value × World) :=
  ((erun Tryz.prog (Instr.box 51 e0) W0).bind fun r2 =>
  (prun Tryz.prog (Instr.fieldAt 51 r2.1 1)).bind fun v12 =>
  (rrun Tryz.prog (Instr.loadAt 3 v12) r2.2).bind fun v13 =>
  (call 90 #[r1, v13] r2.2).bind fun r14 =>
  (prun Tryz.prog (Instr.extract r14.1 0)).bind fun v15 =>
  (prun Tryz.prog (Instr.extract r14.1 1)).bind fun v16 =>
  (prun Tryz.prog (Instr.fieldAt 51 r2.1 2)).bind fun v19 =>
  (rrun Tryz.prog (Instr.loadAt 3 v19) r14.2).bind fun v20 =>
  (call 90 #[r1, v20] r14.2).bind fun r21 =>
  (prun Tryz.prog (Instr.extract r21.1 0)).bind fun v22 =>
  (prun Tryz.prog (Instr.extract r21.1 1)).bind fun v23 =>
  (prun Tryz.prog (Instr.fieldAt 51 r2.1 3)).bind fun v24 =>
  (rrun Tryz.prog (Instr.loadAt 3 v24) r21.2).bind fun v25 =>
  (bin .gtr v25 (Value.int IntKind.i64 0)).bind fun v26 =>
  (asB v26).bind fun c26 =>
  (if c26 then
    (prun Tryz.prog (Instr.fieldAt 51 r2.1 3)).bind fun v27 =>
    (rrun Tryz.prog (Instr.loadAt 3 v27) r21.2).bind fun v28 =>
    (call 91 #[v28] r21.2).bind fun r29 =>
    (prun Tryz.prog (do eqGuard .add 9 (Operand.const (Value.string { data := #[102, 97, 100, 101, 32] })) (Operand.tmp 29) (Value.string { data := #[102, 97, 100, 101, 32] }) r29.1; binOp .add 9 (Value.string { data := #[102, 97, 100, 101, 32] }) r29.1)).bind fun v30 =>
    (prun Tryz.prog (do eqGuard .add 9 (Operand.tmp 30) (Operand.const (Value.string { data := #[32] })) v30 (Value.string { data := #[32] }); binOp .add 9 v30 (Value.string { data := #[32] }))).bind fun v31 =>
    some (Res.norm [r2.1, v15, v22, v31] r29.2)
   else
    some (Res.norm [r2.1, v15, v22, (Value.string { data := #[99, 117, 116, 32] })] r21.2)).bind fun (r : Res) => r.cont fun vs W1 =>
  let e2 := nth vs 0
  let in5 := nth vs 1
  let out7 := nth vs 2
  let s9 := nth vs 3
  (prun Tryz.prog (Instr.fieldAt 51 e2 0)).bind fun v33 =>
  (rrun Tryz.prog (Instr.loadAt 9 v33) W1).bind fun v34 =>
  (prun Tryz.prog (do eqGuard .add 9 (Operand.tmp 34) (Operand.const (Value.string { data := #[32] })) v34 (Value.string { data := #[32] }); binOp .add 9 v34 (Value.string { data := #[32] }))).bind fun v35 =>
  (prun Tryz.prog (do eqGuard .add 9 (Operand.tmp 35) (Operand.tmp 36) v35 in5; binOp .add 9 v35 in5)).bind fun v37 =>
  (prun Tryz.prog (do eqGuard .add 9 (Operand.tmp 37) (Operand.const (Value.string { data := #[32] })) v37 (Value.string { data := #[32] }); binOp .add 9 v37 (Value.string { data := #[32] }))).bind fun v38 =>
  (prun Tryz.prog (do eqGuard .add 9 (Operand.tmp 38) (Operand.tmp 39) v38 out7; binOp .add 9 v38 out7)).bind fun v40 =>
  (prun Tryz.prog (do eqGuard .add 9 (Operand.tmp 32) (Operand.tmp 40) s9 v40; binOp .add 9 s9 v40)).bind fun v41 =>
  (prun Tryz.prog (Instr.fieldAt 51 e2 4)).bind fun v42 =>
  (rrun Tryz.prog (Instr.loadAt 9 v42) W1).bind fun v43 =>
  (prun Tryz.prog (do eqGuard .neq 9 (Operand.tmp 43) (Operand.const (Value.string { data := #[] })) v43 (Value.string { data := #[] }); binOp .neq 9 v43 (Value.string { data := #[] }))).bind fun v44 =>
  (asB v44).bind fun c44 =>
  (if c44 then
    (prun Tryz.prog (Instr.fieldAt 51 e2 4)).bind fun v46 =>
    (rrun Tryz.prog (Instr.loadAt 9 v46) W1).bind fun v47 =>
    (call 50 #[v47] W1).bind fun r48 =>
    (prun Tryz.prog (do eqGuard .add 9 (Operand.const (Value.string { data := #[32] })) (Operand.tmp 48) (Value.string { data := #[32] }) r48.1; binOp .add 9 (Value.string { data := #[32] }) r48.1)).bind fun v49 =>
    (prun Tryz.prog (do eqGuard .add 9 (Operand.tmp 45) (Operand.tmp 49) v41 v49; binOp .add 9 v41 v49)).bind fun v50 =>
    some (Res.norm [v50] r48.2)
   else
    some (Res.norm [v41] W1)).bind fun (r : Res) => r.cont fun vs_1 W2 =>
  let s9_1 := nth vs_1 0
  (prun Tryz.prog (do eqGuard .add 9 (Operand.tmp 51) (Operand.const (Value.string { data := #[10] })) s9_1 (Value.string { data := #[10] }); binOp .add 9 s9_1 (Value.string { data := #[10] }))).bind fun v52 =>
  some (Res.ret [v52] W2)).bind Res.done
theorem f51.eq (call dfr : CallF) (e0 : Value) (r1 : Value) (W0 : World) : aFun Tryz.prog call dfr Tryz.f51 f51.ann (ofArgs #[e0, r1]) W0 = f51 call e0 r1 W0 := by kernel_rfl

/-- unicode/utf8.DecodeRuneInString -/
def f54.ann : Ann := (.s .z (.s (.s .z (.c (.s .z .z) .z)) .z))
noncomputable def f54 (call : CallF) (s0 : Value) (W0 : World) : Option (Value × World) :=
  ((prun Tryz.prog (do eqGuard .neq 9 (Operand.tmp 4) (Operand.const (Value.string { data := #[] })) s0 (Value.string { data := #[] }); binOp .neq 9 s0 (Value.string { data := #[] }))).bind fun v5 =>
  (asB v5).bind fun b6 =>
  (if b6 = true then (prun Tryz.prog (Instr.index 9 s0 (Value.int IntKind.i64 0))).bind fun v8 =>
    (bin .lss v8 (Value.int IntKind.u8 128)).bind fun v9 =>
    some (v9, W0)
   else some ((Value.bool false), W0)).bind fun r10 =>
  (asB r10.1).bind fun c10 =>
  if c10 then
    (prun Tryz.prog (Instr.index 9 s0 (Value.int IntKind.i64 0))).bind fun v12 =>
    (prun Tryz.prog (convert 5 21 v12)).bind fun v13 =>
    some (Res.ret [v13, (Value.int IntKind.i64 1)] r10.2)
  else
  (call 92 #[s0] r10.2).bind fun r16 =>
  (prun Tryz.prog (Instr.extract r16.1 0)).bind fun v17 =>
  (prun Tryz.prog (Instr.extract r16.1 1)).bind fun v18 =>
  some (Res.ret [v17, v18] r16.2)).bind Res.done
theorem f54.eq (call dfr : CallF) (s0 : Value) (W0 : World) : aFun Tryz.prog call dfr Tryz.f54 f54.ann (ofArgs #[s0]) W0 = f54 call s0 W0 := by kernel_rfl

/-- internal/stringslite.IndexByte -/
def f55.ann : Ann := (.s .z (.s .z .z))
noncomputable def f55 (call : CallF) (s0 : Value) (c1 : Value) (W0 : World) : Option (Value × World) :=
  ((xrun Tryz.prog (callFunc 93 #[s0, c1]) W0).bind fun r7 =>
  some (Res.ret [r7.1] r7.2)).bind Res.done
theorem f55.eq (call dfr : CallF) (s0 : Value) (c1 : Value) (W0 : World) : aFun Tryz.prog call dfr Tryz.f55 f55.ann (ofArgs #[s0, c1]) W0 = f55 call s0 c1 W0 := by kernel_rfl

/-- dailies/cuts.quote -/
def f56.ann : Ann := (.s .z (.s .z (.s .z (.s .z (.s (.s .z (.b [0, 2] (.l [0, 2, 4, 5, 6, 12] (.s .z (.s (.c .z .z) (.b [0, 2, 4, 5, 6, 12] (.s .z (.b [0, 2, 4, 5, 6, 12] (.s .z (.c (.s .z (.s .z (.b [0, 2, 4, 5, 6, 12] (.s (.s .z (.j [0, 2, 4, 5, 6, 8, 12, 22, 24] .z .z)) (.c .z (.s .z (.c .z .z))))))) (.s .z (.c .z (.s .z (.c (.s .z (.s .z .z)) .z)))))))))))))) (.s .z .z))))))
noncomputable def f56.l0 (call : CallF) (vs : List Value) (W1 : World) : Option Res :=
  let s0_1 := nth vs 0
  let v2 := nth vs 1
  let w4 := nth vs 2
  let out5 := nth vs 3
  let turned6 := nth vs 4
  let v12 := nth vs 5
  (erun Tryz.prog (Instr.next v12 true 0) W1).bind fun r13 =>
  (prun Tryz.prog (Instr.extract r13.1 0)).bind fun v14 =>
  (asB v14).bind fun c14 =>
  if c14 then
    ((prun Tryz.prog (Instr.extract r13.1 1)).bind fun v15 =>
    (prun Tryz.prog (Instr.extract r13.1 2)).bind fun v16 =>
    ((asB turned6).bind fun c20 =>
    if c20 then
      ((bin .eql v16 (Value.int IntKind.i32 34)).bind fun v25 =>
      (asB v25).bind fun c24 =>
      (if c24 then
        some (Res.norm [s0_1, v2, w4, out5, (Value.bool false), v16, v12, v16, v25] r13.2)
       else
        (bin .eql v16 (Value.int IntKind.i32 92)).bind fun v26 =>
        some (Res.norm [s0_1, v2, w4, out5, (Value.bool false), v16, v12, v16, v26] r13.2)).bind fun (r : Res) => r.cont fun vs_1 W2 =>
      let s0_2 := nth vs_1 0
      let v2_1 := nth vs_1 1
      let w4_1 := nth vs_1 2
      let out5_1 := nth vs_1 3
      let turned6_1 := nth vs_1 4
      let r8 := nth vs_1 5
      let v12_1 := nth vs_1 6
      let v22 := nth vs_1 7
      let v24 := nth vs_1 8
      (asB v24).bind fun c24_1 =>
      if c24_1 then
        (prun Tryz.prog (convert 21 5 r8)).bind fun v29 =>
        (erun Tryz.prog (Instr.buildSlice 160 1 #[(0, v29)]) W2).bind fun r30 =>
        (erun Tryz.prog (Builtin.append_ #[160, 160] 160 #[out5_1, r30.1]) r30.2).bind fun r31 =>
        some (Res.norm [s0_2, v2_1, w4_1, r31.1, turned6_1, v12_1] r31.2)
      else
      (bin .eql v22 (Value.int IntKind.i32 110)).bind fun v33 =>
      (asB v33).bind fun c32 =>
      if c32 then
        (erun Tryz.prog (Instr.buildSlice 160 1 #[(0, (Value.int IntKind.u8 10))]) W2).bind fun r35 =>
        (erun Tryz.prog (Builtin.append_ #[160, 160] 160 #[out5_1, r35.1]) r35.2).bind fun r36 =>
        some (Res.norm [s0_2, v2_1, w4_1, r36.1, turned6_1, v12_1] r36.2)
      else
      (prun Tryz.prog (Instr.fieldAt 114 w4_1 3)).bind fun v23 =>
      (erun Tryz.prog (Instr.storeAt 4 v23 (Value.bool true)) W2).bind fun r_1 =>
      some (Res.norm [s0_2, v2_1, w4_1, out5_1, turned6_1, v12_1] r_1.2)).bind fun (r : Res) => (r.unblock 3).cont fun vs_2 W3 =>
      let s0_3 := nth vs_2 0
      let v2_2 := nth vs_2 1
      let w4_2 := nth vs_2 2
      let out5_2 := nth vs_2 3
      let turned6_2 := nth vs_2 4
      let v12_2 := nth vs_2 5
      some (Res.norm [s0_3, v2_2, w4_2, out5_2, turned6_2, v12_2] W3)
    else
    (bin .eql v16 (Value.int IntKind.i32 92)).bind fun v39 =>
    (asB v39).bind fun c37 =>
    if c37 then
      some (Res.norm [s0_1, v2, w4, out5, (Value.bool true), v12] r13.2)
    else
    (bin .eql v16 (Value.int IntKind.i32 34)).bind fun v42 =>
    (asB v42).bind fun c40 =>
    if c40 then
      (rrun Tryz.prog (convert 160 9 out5) r13.2).bind fun v44 =>
      (prun Tryz.prog (Instr.fieldAt 114 w4 1)).bind fun v45 =>
      (erun Tryz.prog (Instr.storeAt 9 v45 v44) r13.2).bind fun r_2 =>
      (rrun Tryz.prog (Instr.loadAt 114 w4) r_2.2).bind fun v46 =>
      (bin .add v15 (Value.int IntKind.i64 2)).bind fun v48 =>
      (erun Tryz.prog (Instr.storeAt 114 v2 v46) r_2.2).bind fun r_3 =>
      some (Res.ret [v2, v48] r_3.2)
    else
    (call 89 #[out5, v16] r13.2).bind fun r19 =>
    some (Res.norm [s0_1, v2, w4, r19.1, turned6, v12] r19.2)).bind fun (r : Res) => (r.unblock 2).cont fun vs_3 W4 =>
    let s0_4 := nth vs_3 0
    let v2_3 := nth vs_3 1
    let w4_3 := nth vs_3 2
    let out5_3 := nth vs_3 3
    let turned6_3 := nth vs_3 4
    let v12_3 := nth vs_3 5
    some (Res.norm [s0_4, v2_3, w4_3, out5_3, turned6_3, v12_3] W4)).bind fun (r : Res) => (r.unblock 1).cont fun vs_4 W5 =>
    let s0_5 := nth vs_4 0
    let v2_4 := nth vs_4 1
    let w4_4 := nth vs_4 2
    let out5_4 := nth vs_4 3
    let turned6_4 := nth vs_4 4
    let v12_4 := nth vs_4 5
    some (Res.norm [s0_5, v2_4, w4_4, out5_4, turned6_4, v12_4] W5)
  else
  some (Res.exit 0 [s0_1, v2] r13.2)
noncomputable def f56 (call : CallF) (s0 : Value) (W0 : World) : Option (Value × World) :=
  ((erun Tryz.prog (Instr.alloc 114 true (.tuple #[])) W0).bind fun r2 =>
  (prun Tryz.prog (Instr.build 114 #[(2, (Value.bool true))])).bind fun v9 =>
  (erun Tryz.prog (Instr.alloc 114 true (.tuple #[])) r2.2).bind fun r4 =>
  (erun Tryz.prog (Instr.storeAt 114 r4.1 v9) r4.2).bind fun r =>
  (prun Tryz.prog (Instr.sliceAt 9 s0 (some (Value.int IntKind.i64 1)) none none)).bind fun v11 =>
  (erun Tryz.prog (Instr.range 9 v11) r.2).bind fun r12 =>
  (iter (f56.l0 call) [s0, r2.1, r4.1, (Value.slice none 0 0), (Value.bool false), r12.1] r12.2).bind fun (r : Res) => (r.unblock 0).cont fun vs_5 W6 =>
  let s0_6 := nth vs_5 0
  let v2_5 := nth vs_5 1
  (prun Tryz.prog (Instr.build 114 #[(2, (Value.bool true)), (3, (Value.bool true))])).bind fun v49 =>
  (prun Tryz.prog (Builtin.len_ #[9] 3 #[s0_6])).bind fun v51 =>
  (erun Tryz.prog (Instr.storeAt 114 v2_5 v49) W6).bind fun r_4 =>
  some (Res.ret [v2_5, v51] r_4.2)).bind (Res.doneR Tryz.prog [.cell 2 114, .tmp 3])
theorem f56.eq (call dfr : CallF) (s0 : Value) (W0 : World) : aFun Tryz.prog call dfr Tryz.f56 f56.ann (ofArgs #[s0]) W0 = f56 call s0 W0 := by kernel_rfl

/-- strings.IndexAny -/
def f57.ann : Ann := (.s .z (.s (.s .z (.c (.s .z .z) .z)) (.s (.s .z (.c (.s .z (.s (.s .z (.j [0, 5] .z .z)) (.s .z .z))) .z)) (.s (.s .z (.j [0, 1] (.s .z (.s .z (.c (.s (.s .z (.b [] (.l [0, 6, 8] (.s (.s .z (.c .z .z)) (.s (.b [0, 6, 8] (.s .z (.c (.s .z .z) .z))) .z))))) (.s .z .z)) .z))) .z)) (.s (.s .z (.b [] (.l [1, 45] (.s .z (.s (.c .z .z) (.b [1, 45] (.s .z (.s .z (.c (.s .z .z) .z))))))))) (.s .z .z))))))
noncomputable def f57.l0 (call : CallF) (vs_1 : List Value) (W2 : World) : Option Res :=
  let s0_2 := nth vs_1 0
  let as6 := nth vs_1 1
  let i8 := nth vs_1 2
  (prun Tryz.prog (Builtin.len_ #[9] 3 #[s0_2])).bind fun v35 =>
  (bin .lss i8 v35).bind fun v36 =>
  (asB v36).bind fun c36 =>
  if c36 then
    ((prun Tryz.prog (Instr.index 9 s0_2 i8)).bind fun v41 =>
    (call 97 #[as6, v41] W2).bind fun r42 =>
    (asB r42.1).bind fun c42 =>
    if c42 then
      some (Res.ret [i8] r42.2)
    else
    some (Res.norm [s0_2, as6, i8] r42.2)).bind fun (r : Res) => (r.unblock 1).cont fun vs_2 W3 =>
    let s0_3 := nth vs_2 0
    let as6_1 := nth vs_2 1
    let i8_1 := nth vs_2 2
    (bin .add i8_1 (Value.int IntKind.i64 1)).bind fun v38 =>
    some (Res.norm [s0_3, as6_1, v38] W3)
  else
  some (Res.exit 0 [] W2)
noncomputable def f57.l1 (call : CallF) (vs_5 : List Value) (W6 : World) : Option Res :=
  let chars1_2 := nth vs_5 0
  let v45 := nth vs_5 1
  (erun Tryz.prog (Instr.next v45 true 0) W6).bind fun r46 =>
  (prun Tryz.prog (Instr.extract r46.1 0)).bind fun v47 =>
  (asB v47).bind fun c47 =>
  if c47 then
    ((prun Tryz.prog (Instr.extract r46.1 1)).bind fun v48 =>
    (prun Tryz.prog (Instr.extract r46.1 2)).bind fun v49 =>
    (call 94 #[chars1_2, v49] r46.2).bind fun r52 =>
    (bin .geq r52.1 (Value.int IntKind.i64 0)).bind fun v53 =>
    (asB v53).bind fun c53 =>
    if c53 then
      some (Res.ret [v48] r52.2)
    else
    some (Res.norm [chars1_2, v45] r52.2)).bind fun (r : Res) => (r.unblock 3).cont fun vs_6 W7 =>
    let chars1_3 := nth vs_6 0
    let v45_1 := nth vs_6 1
    some (Res.norm [chars1_3, v45_1] W7)
  else
  some (Res.exit 2 [] r46.2)
noncomputable def f57 (call : CallF) (s0 : Value) (chars1 : Value) (W0 : World) : Option (Value × World) :=
  ((prun Tryz.prog (do eqGuard .eql 9 (Operand.tmp 11) (Operand.const (Value.string { data := #[] })) chars1 (Value.string { data := #[] }); binOp .eql 9 chars1 (Value.string { data := #[] }))).bind fun v12 =>
  (asB v12).bind fun c12 =>
  if c12 then
    some (Res.ret [(Value.int IntKind.i64 (-1))] W0)
  else
  (prun Tryz.prog (Builtin.len_ #[9] 3 #[chars1])).bind fun v14 =>
  (bin .eql v14 (Value.int IntKind.i64 1)).bind fun v15 =>
  (asB v15).bind fun c15 =>
  if c15 then
    (prun Tryz.prog (Instr.index 9 chars1 (Value.int IntKind.i64 0))).bind fun v17 =>
    (prun Tryz.prog (convert 5 21 v17)).bind fun v18 =>
    (bin .geq v18 (Value.int IntKind.i32 128)).bind fun v20 =>
    (asB v20).bind fun c20 =>
    (if c20 then
      some (Res.norm [s0, (Value.int IntKind.i32 65533)] W0)
     else
      some (Res.norm [s0, v18] W0)).bind fun (r : Res) => r.cont fun vs W1 =>
    let s0_1 := nth vs 0
    let r5 := nth vs 1
    (call 94 #[s0_1, r5] W1).bind fun r23 =>
    some (Res.ret [r23.1] r23.2)
  else
  (prun Tryz.prog (Builtin.len_ #[9] 3 #[s0])).bind fun v25 =>
  (call 95 #[v25] W0).bind fun r26 =>
  (asB r26.1).bind fun c26 =>
  (if c26 then
    (call 96 #[chars1] r26.2).bind fun r29 =>
    (prun Tryz.prog (Instr.extract r29.1 0)).bind fun v30 =>
    (prun Tryz.prog (Instr.extract r29.1 1)).bind fun v31 =>
    (erun Tryz.prog (Instr.alloc 175 true (.tuple #[])) r29.2).bind fun r6 =>
    (erun Tryz.prog (Instr.storeAt 175 r6.1 v30) r6.2).bind fun r =>
    (asB v31).bind fun c32 =>
    if c32 then
      (iter (f57.l0 call) [s0, r6.1, (Value.int IntKind.i64 0)] r.2).bind fun (r : Res) => (r.unblock 0).cont fun vs_3 W4 =>
      some (Res.ret [(Value.int IntKind.i64 (-1))] W4)
    else
    some (Res.norm [s0, chars1] r.2)
   else
    some (Res.norm [s0, chars1] r26.2)).bind fun (r : Res) => r.cont fun vs_4 W5 =>
  let s0_4 := nth vs_4 0
  let chars1_1 := nth vs_4 1
  (erun Tryz.prog (Instr.range 9 s0_4) W5).bind fun r45 =>
  (iter (f57.l1 call) [chars1_1, r45.1] r45.2).bind fun (r : Res) => (r.unblock 2).cont fun vs_7 W8 =>
  some (Res.ret [(Value.int IntKind.i64 (-1))] W8)).bind Res.done
theorem f57.eq (call dfr : CallF) (s0 : Value) (chars1 : Value) (W0 : World) : aFun Tryz.prog call dfr Tryz.f57 f57.ann (ofArgs #[s0, chars1]) W0 = f57 call s0 chars1 W0 := by kernel_rfl

/-- (*dailies/cuts.reader).plain -/
def f58.ann : Ann := (.s .z (.s .z (.s (.s .z (.j [4, 6, 7] .z .z)) (.s .z .z))))
noncomputable def f58 (call : CallF) (r0 : Value) (holds1 : Value) (W0 : World) : Option (Value × World) :=
  ((erun Tryz.prog (Instr.alloc 114 true (.tuple #[])) W0).bind fun r4 =>
  (call 62 #[r0, (Value.bool false)] r4.2).bind fun r10 =>
  (prun Tryz.prog (Instr.extract r10.1 0)).bind fun v11 =>
  (prun Tryz.prog (Instr.extract r10.1 1)).bind fun v12 =>
  (erun Tryz.prog (Instr.alloc 114 true (.tuple #[])) r10.2).bind fun r6 =>
  (erun Tryz.prog (Instr.storeAt 114 r6.1 v11) r6.2).bind fun r =>
  (rrun Tryz.prog (do eqGuard .eql 32 (Operand.tmp 13) (Operand.const Value.nilIface) v12 Value.nilIface; binOp .eql 32 v12 Value.nilIface) r.2).bind fun v14 =>
  (asB v14).bind fun b15 =>
  (if b15 = true then (prun Tryz.prog (Instr.fieldAt 114 r6.1 1)).bind fun v17 =>
    (rrun Tryz.prog (Instr.loadAt 9 v17) r.2).bind fun v18 =>
    (callV call holds1 [v18] r.2).bind fun r19 =>
    (prun Tryz.prog (Op.unary .not r19.1)).bind fun v20 =>
    some (v20, r19.2)
   else some ((Value.bool false), r.2)).bind fun r21 =>
  (asB r21.1).bind fun c21 =>
  (if c21 then
    (prun Tryz.prog (Instr.fieldAt 114 r6.1 0)).bind fun v22 =>
    (rrun Tryz.prog (Instr.loadAt 3 v22) r21.2).bind fun v23 =>
    (call 23 #[v23, (Value.int IntKind.i64 193)] r21.2).bind fun r24 =>
    some (Res.norm [r4.1, r6.1, r24.1] r24.2)
   else
    some (Res.norm [r4.1, r6.1, v12] r21.2)).bind fun (r : Res) => r.cont fun vs W1 =>
  let v4 := nth vs 0
  let w6 := nth vs 1
  let err7 := nth vs 2
  (rrun Tryz.prog (Instr.loadAt 114 w6) W1).bind fun v25 =>
  (erun Tryz.prog (Instr.storeAt 114 v4 v25) W1).bind fun r_1 =>
  some (Res.ret [v4, err7] r_1.2)).bind (Res.doneR Tryz.prog [.cell 4 114, .tmp 5])
theorem f58.eq (call dfr : CallF) (r0 : Value) (holds1 : Value) (W0 : World) : aFun Tryz.prog call dfr Tryz.f58 f58.ann (ofArgs #[r0, holds1]) W0 = f58 call r0 holds1 W0 := by kernel_rfl

/-- (*dailies/cuts.reader).list$1 -/
def f59.ann : Ann := (.s .z (.s .z .z))
noncomputable def f59 (call : CallF) (s0 : Value) (W0 : World) : Option (Value × World) :=
  ((prun Tryz.prog (do eqGuard .eql 9 (Operand.tmp 3) (Operand.const (Value.string { data := #[108, 105, 115, 116] })) s0 (Value.string { data := #[108, 105, 115, 116] }); binOp .eql 9 s0 (Value.string { data := #[108, 105, 115, 116] }))).bind fun v4 =>
  some (Res.ret [v4] W0)).bind Res.done
theorem f59.eq (call dfr : CallF) (s0 : Value) (W0 : World) : aFun Tryz.prog call dfr Tryz.f59 f59.ann (ofArgs #[s0]) W0 = f59 call s0 W0 := by kernel_rfl

/-- (*dailies/cuts.reader).list$2 -/
def f60.ann : Ann := (.s .z (.s .z .z))
noncomputable def f60 (call : CallF) (s0 : Value) (W0 : World) : Option (Value × World) :=
  ((call 61 #[s0] W0).bind fun r4 =>
  (bin .neq r4.1 (Value.int IntKind.i64 0)).bind fun v5 =>
  some (Res.ret [v5] r4.2)).bind Res.done
theorem f60.eq (call dfr : CallF) (s0 : Value) (W0 : World) : aFun Tryz.prog call dfr Tryz.f60 f60.ann (ofArgs #[s0]) W0 = f60 call s0 W0 := by kernel_rfl

/-- dailies/cuts.rateOf -/
def f61.ann : Ann := (.s .z (.s (.s .z (.b [] (.l [0, 3] (.s (.s .z (.c .z .z)) (.s (.b [0, 3] (.s .z (.c (.s .z .z) .z))) .z))))) (.s .z .z)))
noncomputable def f61.l0 (call : CallF) (vs : List Value) (W1 : World) : Option Res :=
  let s0_1 := nth vs 0
  let r3 := nth vs 1
  (bin .leq r3 (Value.int IntKind.i64 7)).bind fun v5 =>
  (asB v5).bind fun c5 =>
  if c5 then
    ((call 49 #[r3] W1).bind fun r9 =>
    (prun Tryz.prog (do eqGuard .eql 9 (Operand.tmp 9) (Operand.tmp 10) r9.1 s0_1; binOp .eql 9 r9.1 s0_1)).bind fun v11 =>
    (asB v11).bind fun c11 =>
    if c11 then
      some (Res.ret [r3] r9.2)
    else
    some (Res.norm [s0_1, r3] r9.2)).bind fun (r : Res) => (r.unblock 1).cont fun vs_1 W2 =>
    let s0_2 := nth vs_1 0
    let r3_1 := nth vs_1 1
    (bin .add r3_1 (Value.int IntKind.i64 1)).bind fun v7 =>
    some (Res.norm [s0_2, v7] W2)
  else
  some (Res.exit 0 [] W1)
noncomputable def f61 (call : CallF) (s0 : Value) (W0 : World) : Option (Value × World) :=
  ((iter (f61.l0 call) [s0, (Value.int IntKind.i64 1)] W0).bind fun (r : Res) => (r.unblock 0).cont fun vs_2 W3 =>
  some (Res.ret [(Value.int IntKind.i64 0)] W3)).bind Res.done
theorem f61.eq (call dfr : CallF) (s0 : Value) (W0 : World) : aFun Tryz.prog call dfr Tryz.f61 f61.ann (ofArgs #[s0]) W0 = f61 call s0 W0 := by kernel_rfl

/-- (*dailies/cuts.reader).next -/
def f62.ann : Ann := (.s .z (.s (.s .z (.c (.s .z .z) .z)) (.s .z (.s (.s .z (.c (.s .z .z) .z)) (.s .z (.s (.s .z (.c (.s .z .z) .z)) (.s .z .z)))))))
noncomputable def f62 (call : CallF) (r0 : Value) (text1 : Value) (W0 : World) : Option (Value × World) :=
  ((erun Tryz.prog (Instr.alloc 114 true (.tuple #[])) W0).bind fun r4 =>
  (nilV Tryz.prog r0).bind fun v8 =>
  (prun Tryz.prog (Instr.fieldAt 64 v8 0)).bind fun v9 =>
  (rrun Tryz.prog (Instr.loadAt 62 v9) r4.2).bind fun v10 =>
  (prun Tryz.prog (Builtin.len_ #[62] 3 #[v10])).bind fun v11 =>
  (bin .eql v11 (Value.int IntKind.i64 0)).bind fun v12 =>
  (asB v12).bind fun c12 =>
  if c12 then
    (prun Tryz.prog (Instr.build 114 #[])).bind fun v13 =>
    (nilV Tryz.prog r0).bind fun v15 =>
    (prun Tryz.prog (Instr.fieldAt 64 v15 1)).bind fun v16 =>
    (rrun Tryz.prog (Instr.loadAt 3 v16) r4.2).bind fun v17 =>
    (call 23 #[v17, (Value.int IntKind.i64 193)] r4.2).bind fun r18 =>
    (erun Tryz.prog (Instr.storeAt 114 r4.1 v13) r18.2).bind fun r =>
    some (Res.ret [r4.1, r18.1] r.2)
  else
  (nilV Tryz.prog r0).bind fun v20 =>
  (prun Tryz.prog (Instr.fieldAt 64 v20 0)).bind fun v21 =>
  (rrun Tryz.prog (Instr.loadAt 62 v21) r4.2).bind fun v22 =>
  (prun Tryz.prog (Instr.indexAt 62 v22 (Value.int IntKind.i64 0))).bind fun v23 =>
  (rrun Tryz.prog (Instr.loadAt 114 v23) r4.2).bind fun v24 =>
  (erun Tryz.prog (Instr.alloc 114 true (.tuple #[])) r4.2).bind fun r6 =>
  (erun Tryz.prog (Instr.storeAt 114 r6.1 v24) r6.2).bind fun r_1 =>
  (prun Tryz.prog (Instr.fieldAt 114 r6.1 3)).bind fun v25 =>
  (rrun Tryz.prog (Instr.loadAt 4 v25) r_1.2).bind fun v26 =>
  (asB v26).bind fun b27 =>
  (if b27 = false then (prun Tryz.prog (Instr.fieldAt 114 r6.1 2)).bind fun v28 =>
    (rrun Tryz.prog (Instr.loadAt 4 v28) r_1.2).bind fun v29 =>
    (prun Tryz.prog (do eqGuard .neq 4 (Operand.tmp 29) (Operand.tmp 30) v29 text1; binOp .neq 4 v29 text1)).bind fun v31 =>
    some (v31, r_1.2)
   else some ((Value.bool true), r_1.2)).bind fun r32 =>
  (asB r32.1).bind fun c32 =>
  if c32 then
    (prun Tryz.prog (Instr.build 114 #[])).bind fun v33 =>
    (prun Tryz.prog (Instr.fieldAt 114 r6.1 0)).bind fun v34 =>
    (rrun Tryz.prog (Instr.loadAt 3 v34) r32.2).bind fun v35 =>
    (call 23 #[v35, (Value.int IntKind.i64 193)] r32.2).bind fun r36 =>
    (erun Tryz.prog (Instr.storeAt 114 r4.1 v33) r36.2).bind fun r_2 =>
    some (Res.ret [r4.1, r36.1] r_2.2)
  else
  (nilV Tryz.prog r0).bind fun v39 =>
  (prun Tryz.prog (Instr.fieldAt 64 v39 0)).bind fun v40 =>
  (rrun Tryz.prog (Instr.loadAt 62 v40) r32.2).bind fun v41 =>
  (prun Tryz.prog (Instr.sliceAt 62 v41 (some (Value.int IntKind.i64 1)) none none)).bind fun v42 =>
  (nilV Tryz.prog r0).bind fun v43 =>
  (prun Tryz.prog (Instr.fieldAt 64 v43 0)).bind fun v44 =>
  (erun Tryz.prog (Instr.storeAt 62 v44 v42) r32.2).bind fun r_3 =>
  (asB text1).bind fun b46 =>
  (if b46 = true then (prun Tryz.prog (Instr.fieldAt 114 r6.1 1)).bind fun v47 =>
    (rrun Tryz.prog (Instr.loadAt 9 v47) r_3.2).bind fun v48 =>
    (prun Tryz.prog (Builtin.len_ #[9] 3 #[v48])).bind fun v49 =>
    (bin .gtr v49 (Value.int IntKind.i64 100)).bind fun v50 =>
    some (v50, r_3.2)
   else some ((Value.bool false), r_3.2)).bind fun r51 =>
  (asB r51.1).bind fun c51 =>
  if c51 then
    (prun Tryz.prog (Instr.build 114 #[])).bind fun v52 =>
    (prun Tryz.prog (Instr.fieldAt 114 r6.1 0)).bind fun v53 =>
    (rrun Tryz.prog (Instr.loadAt 3 v53) r51.2).bind fun v54 =>
    (call 23 #[v54, (Value.int IntKind.i64 191)] r51.2).bind fun r55 =>
    (erun Tryz.prog (Instr.storeAt 114 r4.1 v52) r55.2).bind fun r_4 =>
    some (Res.ret [r4.1, r55.1] r_4.2)
  else
  (rrun Tryz.prog (Instr.loadAt 114 r6.1) r51.2).bind fun v56 =>
  (erun Tryz.prog (Instr.storeAt 114 r4.1 v56) r51.2).bind fun r_5 =>
  some (Res.ret [r4.1, Value.nilIface] r_5.2)).bind (Res.doneR Tryz.prog [.cell 4 114, .tmp 5])
theorem f62.eq (call dfr : CallF) (r0 : Value) (text1 : Value) (W0 : World) : aFun Tryz.prog call dfr Tryz.f62 f62.ann (ofArgs #[r0, text1]) W0 = f62 call r0 text1 W0 := by kernel_rfl

/-- (*dailies/cuts.reader).done -/
def f63.ann : Ann := (.s .z (.s (.s .z (.c (.s .z .z) .z)) (.s .z .z)))
noncomputable def f63 (call : CallF) (r0 : Value) (W0 : World) : Option (Value × World) :=
  ((nilV Tryz.prog r0).bind fun v4 =>
  (prun Tryz.prog (Instr.fieldAt 64 v4 0)).bind fun v5 =>
  (rrun Tryz.prog (Instr.loadAt 62 v5) W0).bind fun v6 =>
  (prun Tryz.prog (Builtin.len_ #[62] 3 #[v6])).bind fun v7 =>
  (bin .gtr v7 (Value.int IntKind.i64 0)).bind fun v8 =>
  (asB v8).bind fun c8 =>
  if c8 then
    (nilV Tryz.prog r0).bind fun v10 =>
    (prun Tryz.prog (Instr.fieldAt 64 v10 0)).bind fun v11 =>
    (rrun Tryz.prog (Instr.loadAt 62 v11) W0).bind fun v12 =>
    (prun Tryz.prog (Instr.indexAt 62 v12 (Value.int IntKind.i64 0))).bind fun v13 =>
    (prun Tryz.prog (Instr.fieldAt 114 v13 0)).bind fun v14 =>
    (rrun Tryz.prog (Instr.loadAt 3 v14) W0).bind fun v15 =>
    (call 23 #[v15, (Value.int IntKind.i64 193)] W0).bind fun r16 =>
    some (Res.ret [r16.1] r16.2)
  else
  some (Res.ret [Value.nilIface] W0)).bind Res.done
theorem f63.eq (call dfr : CallF) (r0 : Value) (W0 : World) : aFun Tryz.prog call dfr Tryz.f63 f63.ann (ofArgs #[r0]) W0 = f63 call r0 W0 := by kernel_rfl

/-- (*dailies/cuts.reader).event$1 -/
def f64.ann : Ann := (.s .z (.s .z .z))
noncomputable def f64 (call : CallF) (s0 : Value) (W0 : World) : Option (Value × World) :=
  ((prun Tryz.prog (do eqGuard .eql 9 (Operand.tmp 3) (Operand.const (Value.string { data := #[99, 117, 116] })) s0 (Value.string { data := #[99, 117, 116] }); binOp .eql 9 s0 (Value.string { data := #[99, 117, 116] }))).bind fun v4 =>
  (asB v4).bind fun b5 =>
  (if b5 = false then (prun Tryz.prog (do eqGuard .eql 9 (Operand.tmp 6) (Operand.const (Value.string { data := #[102, 97, 100, 101] })) s0 (Value.string { data := #[102, 97, 100, 101] }); binOp .eql 9 s0 (Value.string { data := #[102, 97, 100, 101] }))).bind fun v7 =>
    some (v7, W0)
   else some ((Value.bool true), W0)).bind fun r8 =>
  some (Res.ret [r8.1] r8.2)).bind Res.done
theorem f64.eq (call dfr : CallF) (s0 : Value) (W0 : World) : aFun Tryz.prog call dfr Tryz.f64 f64.ann (ofArgs #[s0]) W0 = f64 call s0 W0 := by kernel_rfl

/-- dailies/cuts.isFade -/
def f65.ann : Ann := (.s .z (.s .z (.s .z .z)))
noncomputable def f65 (call : CallF) (s0 : Value) (W0 : World) : Option (Value × World) :=
  ((call 66 #[s0] W0).bind fun r7 =>
  (prun Tryz.prog (Instr.extract r7.1 0)).bind fun v8 =>
  (prun Tryz.prog (Instr.extract r7.1 1)).bind fun v9 =>
  (rrun Tryz.prog (do eqGuard .eql 32 (Operand.tmp 10) (Operand.const Value.nilIface) v9 Value.nilIface; binOp .eql 32 v9 Value.nilIface) r7.2).bind fun v11 =>
  (asB v11).bind fun b12 =>
  (if b12 = true then (bin .geq v8 (Value.int IntKind.i64 1)).bind fun v14 =>
    some (v14, r7.2)
   else some ((Value.bool false), r7.2)).bind fun r15 =>
  (asB r15.1).bind fun b16 =>
  (if b16 = true then (bin .leq v8 (Value.int IntKind.i64 100)).bind fun v18 =>
    some (v18, r15.2)
   else some ((Value.bool false), r15.2)).bind fun r19 =>
  (asB r19.1).bind fun b20 =>
  (if b20 = true then (call 91 #[v8] r19.2).bind fun r22 =>
    (prun Tryz.prog (do eqGuard .eql 9 (Operand.tmp 22) (Operand.tmp 23) r22.1 s0; binOp .eql 9 r22.1 s0)).bind fun v24 =>
    some (v24, r22.2)
   else some ((Value.bool false), r19.2)).bind fun r25 =>
  some (Res.ret [r25.1] r25.2)).bind Res.done
theorem f65.eq (call dfr : CallF) (s0 : Value) (W0 : World) : aFun Tryz.prog call dfr Tryz.f65 f65.ann (ofArgs #[s0]) W0 = f65 call s0 W0 := by kernel_rfl

/-- strconv.Atoi -/
def f66.ann : Ann := (.s .z (.s .z (.s (.s .z (.c (.s .z .z) .z)) (.s .z .z))))
noncomputable def f66 (call : CallF) (s0 : Value) (W0 : World) : Option (Value × World) :=
  ((call 98 #[s0] W0).bind fun r8 =>
  (prun Tryz.prog (Instr.extract r8.1 0)).bind fun v9 =>
  (prun Tryz.prog (Instr.extract r8.1 1)).bind fun v10 =>
  (rrun Tryz.prog (do eqGuard .neq 32 (Operand.tmp 11) (Operand.const Value.nilIface) v10 Value.nilIface; binOp .neq 32 v10 Value.nilIface) r8.2).bind fun v12 =>
  (asB v12).bind fun c12 =>
  if c12 then
    (call 99 #[(Value.string { data := #[65, 116, 111, 105] }), s0, (Value.int IntKind.i64 0), (Value.int IntKind.i64 0), v10] r8.2).bind fun r16 =>
    some (Res.ret [v9, r16.1] r16.2)
  else
  some (Res.ret [v9, Value.nilIface] r8.2)).bind Res.done
theorem f66.eq (call dfr : CallF) (s0 : Value) (W0 : World) : aFun Tryz.prog call dfr Tryz.f66 f66.ann (ofArgs #[s0]) W0 = f66 call s0 W0 := by kernel_rfl

/-- dailies/cuts.isName -/
def f67.ann : Ann := (.s .z (.s (.s .z (.b [0] (.l [0, 6, 7] (.s .z (.s (.c .z .z) (.s (.b [0, 6, 7] (.s .z (.s .z (.s .z (.c (.s .z .z) .z))))) .z)))))) (.s .z .z)))
noncomputable def f67.l0 (call : CallF) (vs : List Value) (W1 : World) : Option Res :=
  let s0_1 := nth vs 0
  let v6_1 := nth vs 1
  let v7 := nth vs 2
  (bin .lss v7 v6_1).bind fun v8 =>
  (asB v8).bind fun c8 =>
  if c8 then
    ((prun Tryz.prog (Instr.index 9 s0_1 v7)).bind fun v12 =>
    (bin .lss v12 (Value.int IntKind.u8 97)).bind fun v14 =>
    (asB v14).bind fun b15 =>
    (if b15 = false then (bin .gtr v12 (Value.int IntKind.u8 122)).bind fun v17 =>
      some (v17, W1)
     else some ((Value.bool true), W1)).bind fun r18 =>
    (asB r18.1).bind fun b19 =>
    (if b19 = true then (bin .lss v12 (Value.int IntKind.u8 48)).bind fun v21 =>
      (asB v21).bind fun b22 =>
      (if b22 = false then (bin .gtr v12 (Value.int IntKind.u8 57)).bind fun v24 =>
        some (v24, r18.2)
       else some ((Value.bool true), r18.2)).bind fun r25 =>
      some (r25.1, r25.2)
     else some ((Value.bool false), r18.2)).bind fun r26 =>
    (asB r26.1).bind fun b27 =>
    (if b27 = true then (bin .neq v12 (Value.int IntKind.u8 95)).bind fun v29 =>
      some (v29, r26.2)
     else some ((Value.bool false), r26.2)).bind fun r30 =>
    (asB r30.1).bind fun b31 =>
    (if b31 = true then (bin .neq v12 (Value.int IntKind.u8 45)).bind fun v33 =>
      some (v33, r30.2)
     else some ((Value.bool false), r30.2)).bind fun r34 =>
    (asB r34.1).bind fun c34 =>
    if c34 then
      some (Res.ret [(Value.bool false)] r34.2)
    else
    some (Res.norm [s0_1, v6_1, v7] r34.2)).bind fun (r : Res) => (r.unblock 1).cont fun vs_1 W2 =>
    let s0_2 := nth vs_1 0
    let v6_2 := nth vs_1 1
    let v7_1 := nth vs_1 2
    (bin .add v7_1 (Value.int IntKind.i64 1)).bind fun v35 =>
    some (Res.norm [s0_2, v6_2, v35] W2)
  else
  some (Res.exit 0 [s0_1] W1)
noncomputable def f67 (call : CallF) (s0 : Value) (W0 : World) : Option (Value × World) :=
  ((prun Tryz.prog (Builtin.len_ #[9] 3 #[s0])).bind fun v6 =>
  (iter (f67.l0 call) [s0, v6, (Value.int IntKind.i64 0)] W0).bind fun (r : Res) => (r.unblock 0).cont fun vs_2 W3 =>
  let s0_3 := nth vs_2 0
  (prun Tryz.prog (Builtin.len_ #[9] 3 #[s0_3])).bind fun v37 =>
  (bin .geq v37 (Value.int IntKind.i64 1)).bind fun v38 =>
  (asB v38).bind fun b39 =>
  (if b39 = true then (prun Tryz.prog (Builtin.len_ #[9] 3 #[s0_3])).bind fun v41 =>
    (bin .leq v41 (Value.int IntKind.i64 16)).bind fun v42 =>
    some (v42, W3)
   else some ((Value.bool false), W3)).bind fun r43 =>
  some (Res.ret [r43.1] r43.2)).bind Res.done
theorem f67.eq (call dfr : CallF) (s0 : Value) (W0 : World) : aFun Tryz.prog call dfr Tryz.f67 f67.ann (ofArgs #[s0]) W0 = f67 call s0 W0 := by kernel_rfl

/-- (*dailies/cuts.reader).time -/
def f68.ann : Ann := (.s .z (.s .z (.s (.s .z (.c (.s .z .z) .z)) (.s .z (.s .z (.s (.s .z (.c (.s .z .z) .z)) (.s .z .z)))))))
noncomputable def f68 (call : CallF) (r0 : Value) (rate1 : Value) (W0 : World) : Option (Value × World) :=
  ((erun Tryz.prog (Instr.alloc 114 true (.tuple #[])) W0).bind fun r5 =>
  (call 62 #[r0, (Value.bool false)] r5.2).bind fun r13 =>
  (prun Tryz.prog (Instr.extract r13.1 0)).bind fun v14 =>
  (prun Tryz.prog (Instr.extract r13.1 1)).bind fun v15 =>
  (erun Tryz.prog (Instr.alloc 114 true (.tuple #[])) r13.2).bind fun r7 =>
  (erun Tryz.prog (Instr.storeAt 114 r7.1 v14) r7.2).bind fun r =>
  (rrun Tryz.prog (do eqGuard .neq 32 (Operand.tmp 16) (Operand.const Value.nilIface) v15 Value.nilIface; binOp .neq 32 v15 Value.nilIface) r.2).bind fun v17 =>
  (asB v17).bind fun c17 =>
  if c17 then
    ((rrun Tryz.prog (Instr.loadAt 114 r7.1) r.2.drew).bind fun v18 =>
    some (v18, r.2.drew)).bind fun r18 =>
    ((erun Tryz.prog (Instr.storeAt 114 r5.1 r18.1) r18.2).bind fun r_2 =>
    some (undef, r_2.2)).bind fun r_1 =>
    chkThen (True)
    (some (Res.ret [(Value.int IntKind.i64 0), r5.1, v15] r_1.2))
  else
  (prun Tryz.prog (Instr.fieldAt 114 r7.1 1)).bind fun v22 =>
  (rrun Tryz.prog (Instr.loadAt 9 v22) r.2).bind fun v23 =>
  (call 100 #[rate1, v23] r.2).bind fun r24 =>
  (prun Tryz.prog (Instr.extract r24.1 0)).bind fun v25 =>
  (prun Tryz.prog (Instr.extract r24.1 1)).bind fun v26 =>
  (erun Tryz.prog (Instr.alloc 82 true (.tuple #[])) r24.2).bind fun r10 =>
  (prun Tryz.prog (Instr.makeInterface 85 r10.1)).bind fun v28 =>
  (call 34 #[v26, v28] r10.2).bind fun r29 =>
  (asB r29.1).bind fun c29 =>
  if c29 then
    ((rrun Tryz.prog (Instr.loadAt 114 r7.1) r29.2.drew).bind fun v30 =>
    some (v30, r29.2.drew)).bind fun r30 =>
    ((prun Tryz.prog (Instr.fieldAt 114 r7.1 0)).bind fun v31 =>
    some (v31, r30.2)).bind fun r31 =>
    ((rrun Tryz.prog (Instr.loadAt 3 r31.1) r31.2).bind fun v32 =>
    some (v32, r31.2)).bind fun r32 =>
    ((call 23 #[r32.1, (Value.int IntKind.i64 194)] r32.2).bind fun r33_1 =>
    some (r33_1.1, r33_1.2)).bind fun r33 =>
    ((erun Tryz.prog (Instr.storeAt 114 r5.1 r30.1) r33.2).bind fun r_4 =>
    some (undef, r_4.2)).bind fun r_3 =>
    chkThen ((((rrun Tryz.prog (Instr.loadAt 114 r7.1) r32.2).bind fun v30_1 => some v30_1) = some r30.1 ∧ ((rrun Tryz.prog (Instr.loadAt 114 r7.1) r33.2).bind fun v30_2 => some v30_2) = some r30.1) ∧ True)
    (some (Res.ret [(Value.int IntKind.i64 0), r5.1, r33.1] r_3.2))
  else
  (rrun Tryz.prog (Instr.loadAt 114 r7.1) r29.2.drew).bind fun v35 =>
  (erun Tryz.prog (Instr.storeAt 114 r5.1 v35) r29.2.drew).bind fun r_5 =>
  some (Res.ret [v25, r5.1, Value.nilIface] r_5.2)).bind (Res.doneR Tryz.prog [.tmp 4, .cell 5 114, .tmp 6])
theorem f68.eq (call dfr : CallF) (r0 : Value) (rate1 : Value) (W0 : World) : aFun Tryz.prog call dfr Tryz.f68 f68.ann (ofArgs #[r0, rate1]) W0 = f68 call r0 rate1 W0 := by kernel_rfl

/-- dailies/timecode.find -/
def f80.ann : Ann := (.s .z (.s (.s .z (.c (.s .z .z) .z)) (.s .z .z)))
noncomputable def f80 (call : CallF) (r0 : Value) (W0 : World) : Option (Value × World) :=
  ((erun Tryz.prog (Instr.alloc 145 true (.tuple #[])) W0).bind fun r2 =>
  (bin .lss r0 (Value.int IntKind.i64 1)).bind fun v5 =>
  (asB v5).bind fun b6 =>
  (if b6 = false then (bin .gtr r0 (Value.int IntKind.i64 7)).bind fun v8 =>
    some (v8, r2.2)
   else some ((Value.bool true), r2.2)).bind fun r9 =>
  (asB r9.1).bind fun c9 =>
  if c9 then
    (prun Tryz.prog (Instr.build 145 #[])).bind fun v10 =>
    (erun Tryz.prog (Instr.storeAt 145 r2.1 v10) r9.2).bind fun r =>
    some (Res.ret [r2.1, (Value.bool false)] r.2)
  else
  (prun Tryz.prog (Instr.indexAt 188 (.pointer (some ⟨3, 0, none⟩)) r0)).bind fun v12 =>
  (rrun Tryz.prog (Instr.loadAt 145 v12) r9.2).bind fun v13 =>
  (erun Tryz.prog (Instr.storeAt 145 r2.1 v13) r9.2).bind fun r_1 =>
  some (Res.ret [r2.1, (Value.bool true)] r_1.2)).bind (Res.doneR Tryz.prog [.cell 2 145, .tmp 3])
theorem f80.eq (call dfr : CallF) (r0 : Value) (W0 : World) : aFun Tryz.prog call dfr Tryz.f80 f80.ann (ofArgs #[r0]) W0 = f80 call r0 W0 := by kernel_rfl

/-- (dailies/timecode.rate).perDay -/
def f81.ann : Ann := (.s .z (.s .z .z))
noncomputable def f81 (call : CallF) (x0 : Value) (W0 : World) : Option (Value × World) :=
  ((erun Tryz.prog (Instr.box 145 x0) W0).bind fun r1 =>
  (rrun Tryz.prog (Instr.loadAt 145 r1.1) r1.2).bind fun v3 =>
  (call 106 #[v3] r1.2).bind fun r4 =>
  (bin .mul (Value.int IntKind.i64 144) r4.1).bind fun v5 =>
  some (Res.ret [v5] r4.2)).bind Res.done
theorem f81.eq (call dfr : CallF) (x0 : Value) (W0 : World) : aFun Tryz.prog call dfr Tryz.f81 f81.ann (ofArgs #[x0]) W0 = f81 call x0 W0 := by kernel_rfl

/-- unicode/utf8.word[string] -/
def f82.ann : Ann := (.s .z (.s (.c (.s .z .z) .z) (.s .z .z)))
noncomputable def f82 (call : CallF) (s0 : Value) (W0 : World) : Option (Value × World) :=
  ((asB (Value.bool false)).bind fun c =>
  if c then
    (prun Tryz.prog (Instr.index 9 s0 (Value.int IntKind.i64 0))).bind fun v4 =>
    (prun Tryz.prog (convert 5 12 v4)).bind fun v5 =>
    (prun Tryz.prog (Instr.index 9 s0 (Value.int IntKind.i64 1))).bind fun v7 =>
    (prun Tryz.prog (convert 5 12 v7)).bind fun v8 =>
    (prun Tryz.prog (do eqGuard .shl 12 (Operand.tmp 8) (Operand.const (Value.int IntKind.u64 8)) v8 (Value.int IntKind.u64 8); binOp .shl 12 v8 (Value.int IntKind.u64 8))).bind fun v9 =>
    (prun Tryz.prog (do eqGuard .or 12 (Operand.tmp 5) (Operand.tmp 9) v5 v9; binOp .or 12 v5 v9)).bind fun v10 =>
    (prun Tryz.prog (Instr.index 9 s0 (Value.int IntKind.i64 2))).bind fun v12 =>
    (prun Tryz.prog (convert 5 12 v12)).bind fun v13 =>
    (prun Tryz.prog (do eqGuard .shl 12 (Operand.tmp 13) (Operand.const (Value.int IntKind.u64 16)) v13 (Value.int IntKind.u64 16); binOp .shl 12 v13 (Value.int IntKind.u64 16))).bind fun v14 =>
    (prun Tryz.prog (do eqGuard .or 12 (Operand.tmp 10) (Operand.tmp 14) v10 v14; binOp .or 12 v10 v14)).bind fun v15 =>
    (prun Tryz.prog (Instr.index 9 s0 (Value.int IntKind.i64 3))).bind fun v17 =>
    (prun Tryz.prog (convert 5 12 v17)).bind fun v18 =>
    (prun Tryz.prog (do eqGuard .shl 12 (Operand.tmp 18) (Operand.const (Value.int IntKind.u64 24)) v18 (Value.int IntKind.u64 24); binOp .shl 12 v18 (Value.int IntKind.u64 24))).bind fun v19 =>
    (prun Tryz.prog (do eqGuard .or 12 (Operand.tmp 15) (Operand.tmp 19) v15 v19; binOp .or 12 v15 v19)).bind fun v20 =>
    some (Res.ret [v20] W0.drew)
  else
  (prun Tryz.prog (Instr.index 9 s0 (Value.int IntKind.i64 0))).bind fun v22 =>
  (prun Tryz.prog (convert 5 159 v22)).bind fun v23 =>
  (prun Tryz.prog (Instr.index 9 s0 (Value.int IntKind.i64 1))).bind fun v25 =>
  (prun Tryz.prog (convert 5 159 v25)).bind fun v26 =>
  (prun Tryz.prog (do eqGuard .shl 159 (Operand.tmp 26) (Operand.const (Value.int IntKind.u64 8)) v26 (Value.int IntKind.u64 8); binOp .shl 159 v26 (Value.int IntKind.u64 8))).bind fun v27 =>
  (prun Tryz.prog (do eqGuard .or 159 (Operand.tmp 23) (Operand.tmp 27) v23 v27; binOp .or 159 v23 v27)).bind fun v28 =>
  (prun Tryz.prog (Instr.index 9 s0 (Value.int IntKind.i64 2))).bind fun v30 =>
  (prun Tryz.prog (convert 5 159 v30)).bind fun v31 =>
  (prun Tryz.prog (do eqGuard .shl 159 (Operand.tmp 31) (Operand.const (Value.int IntKind.u64 16)) v31 (Value.int IntKind.u64 16); binOp .shl 159 v31 (Value.int IntKind.u64 16))).bind fun v32 =>
  (prun Tryz.prog (do eqGuard .or 159 (Operand.tmp 28) (Operand.tmp 32) v28 v32; binOp .or 159 v28 v32)).bind fun v33 =>
  (prun Tryz.prog (Instr.index 9 s0 (Value.int IntKind.i64 3))).bind fun v35 =>
  (prun Tryz.prog (convert 5 159 v35)).bind fun v36 =>
  (prun Tryz.prog (do eqGuard .shl 159 (Operand.tmp 36) (Operand.const (Value.int IntKind.u64 24)) v36 (Value.int IntKind.u64 24); binOp .shl 159 v36 (Value.int IntKind.u64 24))).bind fun v37 =>
  (prun Tryz.prog (do eqGuard .or 159 (Operand.tmp 33) (Operand.tmp 37) v33 v37; binOp .or 159 v33 v37)).bind fun v38 =>
  (prun Tryz.prog (Instr.index 9 s0 (Value.int IntKind.i64 4))).bind fun v40 =>
  (prun Tryz.prog (convert 5 159 v40)).bind fun v41 =>
  (prun Tryz.prog (do eqGuard .shl 159 (Operand.tmp 41) (Operand.const (Value.int IntKind.u64 32)) v41 (Value.int IntKind.u64 32); binOp .shl 159 v41 (Value.int IntKind.u64 32))).bind fun v42 =>
  (prun Tryz.prog (do eqGuard .or 159 (Operand.tmp 38) (Operand.tmp 42) v38 v42; binOp .or 159 v38 v42)).bind fun v43 =>
  (prun Tryz.prog (Instr.index 9 s0 (Value.int IntKind.i64 5))).bind fun v45 =>
  (prun Tryz.prog (convert 5 159 v45)).bind fun v46 =>
  (prun Tryz.prog (do eqGuard .shl 159 (Operand.tmp 46) (Operand.const (Value.int IntKind.u64 40)) v46 (Value.int IntKind.u64 40); binOp .shl 159 v46 (Value.int IntKind.u64 40))).bind fun v47 =>
  (prun Tryz.prog (do eqGuard .or 159 (Operand.tmp 43) (Operand.tmp 47) v43 v47; binOp .or 159 v43 v47)).bind fun v48 =>
  (prun Tryz.prog (Instr.index 9 s0 (Value.int IntKind.i64 6))).bind fun v50 =>
  (prun Tryz.prog (convert 5 159 v50)).bind fun v51 =>
  (prun Tryz.prog (do eqGuard .shl 159 (Operand.tmp 51) (Operand.const (Value.int IntKind.u64 48)) v51 (Value.int IntKind.u64 48); binOp .shl 159 v51 (Value.int IntKind.u64 48))).bind fun v52 =>
  (prun Tryz.prog (do eqGuard .or 159 (Operand.tmp 48) (Operand.tmp 52) v48 v52; binOp .or 159 v48 v52)).bind fun v53 =>
  (prun Tryz.prog (Instr.index 9 s0 (Value.int IntKind.i64 7))).bind fun v55 =>
  (prun Tryz.prog (convert 5 159 v55)).bind fun v56 =>
  (prun Tryz.prog (do eqGuard .shl 159 (Operand.tmp 56) (Operand.const (Value.int IntKind.u64 56)) v56 (Value.int IntKind.u64 56); binOp .shl 159 v56 (Value.int IntKind.u64 56))).bind fun v57 =>
  (prun Tryz.prog (do eqGuard .or 159 (Operand.tmp 53) (Operand.tmp 57) v53 v57; binOp .or 159 v53 v57)).bind fun v58 =>
  some (Res.ret [v58] W0.drew)).bind Res.done
theorem f82.eq (call dfr : CallF) (s0 : Value) (W0 : World) : aFun Tryz.prog call dfr Tryz.f82 f82.ann (ofArgs #[s0]) W0 = f82 call s0 W0 := by kernel_rfl

/-- dailies/cuts.fades -/
def f83.ann : Ann := (.s .z (.s (.s .z (.c (.s .z .z) .z)) (.s (.s .z (.c (.s .z .z) .z)) (.s .z (.s .z .z)))))
noncomputable def f83 (call : CallF) (ahead0 : Value) (e1 : Value) (W0 : World) : Option (Value × World) :=
  ((erun Tryz.prog (Instr.box 51 e1) W0).bind fun r3 =>
  (prun Tryz.prog (Instr.fieldAt 51 r3.1 3)).bind fun v6 =>
  (rrun Tryz.prog (Instr.loadAt 3 v6) r3.2).bind fun v7 =>
  (bin .eql v7 (Value.int IntKind.i64 0)).bind fun v8 =>
  (asB v8).bind fun c8 =>
  if c8 then
    some (Res.ret [(Value.bool true)] r3.2)
  else
  ((prun Tryz.prog (Instr.fieldAt 51 r3.1 3)).bind fun v9 =>
  some (v9, r3.2.drew)).bind fun r9 =>
  ((rrun Tryz.prog (Instr.loadAt 3 r9.1) r9.2).bind fun v10 =>
  some (v10, r9.2)).bind fun r10 =>
  ((bin .lss r10.1 (Value.int IntKind.i64 0)).bind fun v11 =>
  some (v11, r10.2)).bind fun r11 =>
  (if wantedV false r11.1 = true then (prun Tryz.prog (Instr.fieldAt 51 r3.1 3)).bind fun v13 =>
  some (v13, r11.2) else some (undef, r11.2)).bind fun r13 =>
  (if wantedV false r11.1 = true then (rrun Tryz.prog (Instr.loadAt 3 r13.1) r13.2).bind fun v14 =>
  some (v14, r13.2) else some (undef, r13.2)).bind fun r14 =>
  (if wantedV false r11.1 = true then (bin .gtr r14.1 (Value.int IntKind.i64 100)).bind fun v15 =>
  some (v15, r14.2) else some (undef, r14.2)).bind fun r15 =>
  ((pickV r11.1 (Value.bool true) r15.1).bind fun v16 =>
  some (v16, r15.2)).bind fun r16 =>
  (if wantedV false r16.1 = true then some (ahead0, r16.2) else some (undef, r16.2)).bind fun r18 =>
  (if wantedV false r16.1 = true then (prun Tryz.prog (Builtin.len_ #[28] 3 #[r18.1])).bind fun v19 =>
  some (v19, r18.2) else some (undef, r18.2)).bind fun r19 =>
  (if wantedV false r16.1 = true then (bin .eql r19.1 (Value.int IntKind.i64 0)).bind fun v20 =>
  some (v20, r19.2) else some (undef, r19.2)).bind fun r20 =>
  ((pickV r16.1 (Value.bool true) r20.1).bind fun v21 =>
  some (v21, r20.2)).bind fun r21 =>
  (if wantedV false r21.1 = true then (prun Tryz.prog (Instr.fieldAt 51 r3.1 3)).bind fun v23 =>
  some (v23, r21.2) else some (undef, r21.2)).bind fun r23 =>
  (if wantedV false r21.1 = true then (rrun Tryz.prog (Instr.loadAt 3 r23.1) r23.2).bind fun v24 =>
  some (v24, r23.2) else some (undef, r23.2)).bind fun r24 =>
  (if wantedV false r21.1 = true then (rrun Tryz.prog (Instr.loadAt 51 r3.1) r24.2).bind fun v25 =>
  some (v25, r24.2) else some (undef, r24.2)).bind fun r25 =>
  (if wantedV false r21.1 = true then (call 46 #[r25.1] r25.2).bind fun r26_1 =>
  some (r26_1.1, r26_1.2) else some (undef, r25.2)).bind fun r26 =>
  (if wantedV false r21.1 = true then (bin .gtr r24.1 r26.1).bind fun v27 =>
  some (v27, r26.2) else some (undef, r26.2)).bind fun r27 =>
  ((pickV r21.1 (Value.bool true) r27.1).bind fun v28 =>
  some (v28, r27.2)).bind fun r28 =>
  chkThen (((if wantedV false r21.1 = true then ((rrun Tryz.prog (Instr.loadAt 3 r23.1) r25.2).bind fun v24_1 => some v24_1) = some r24.1 else True) ∧ (if wantedV false r21.1 = true then ((rrun Tryz.prog (Instr.loadAt 3 r23.1) r26.2).bind fun v24_2 => some v24_2) = some r24.1 else True)) ∧ True)
  ((asB r28.1).bind fun c28 =>
  if c28 then
    some (Res.ret [(Value.bool false)] r28.2)
  else
  (prun Tryz.prog (Builtin.len_ #[28] 3 #[ahead0])).bind fun v31 =>
  (bin .sub v31 (Value.int IntKind.i64 1)).bind fun v32 =>
  (prun Tryz.prog (Instr.indexAt 28 ahead0 v32)).bind fun v33 =>
  (rrun Tryz.prog (Instr.loadAt 51 v33) r28.2).bind fun v34 =>
  (erun Tryz.prog (Instr.alloc 51 true (.tuple #[])) r28.2).bind fun r5 =>
  (erun Tryz.prog (Instr.storeAt 51 r5.1 v34) r5.2).bind fun r =>
  ((prun Tryz.prog (Instr.fieldAt 51 r3.1 3)).bind fun v35 =>
  some (v35, r.2.drew)).bind fun r35 =>
  ((rrun Tryz.prog (Instr.loadAt 3 r35.1) r35.2).bind fun v36 =>
  some (v36, r35.2)).bind fun r36 =>
  ((rrun Tryz.prog (Instr.loadAt 51 r5.1) r36.2).bind fun v37 =>
  some (v37, r36.2)).bind fun r37 =>
  ((call 46 #[r37.1] r37.2).bind fun r38_1 =>
  some (r38_1.1, r38_1.2)).bind fun r38 =>
  ((prun Tryz.prog (Instr.fieldAt 51 r5.1 3)).bind fun v39 =>
  some (v39, r38.2)).bind fun r39 =>
  ((rrun Tryz.prog (Instr.loadAt 3 r39.1) r39.2).bind fun v40 =>
  some (v40, r39.2)).bind fun r40 =>
  ((bin .sub r38.1 r40.1).bind fun v41 =>
  some (v41, r40.2)).bind fun r41 =>
  ((bin .leq r36.1 r41.1).bind fun v42 =>
  some (v42, r41.2)).bind fun r42 =>
  chkThen ((((rrun Tryz.prog (Instr.loadAt 3 r35.1) r37.2).bind fun v36_1 => some v36_1) = some r36.1 ∧ ((rrun Tryz.prog (Instr.loadAt 3 r35.1) r38.2).bind fun v36_2 => some v36_2) = some r36.1) ∧ (((rrun Tryz.prog (Instr.loadAt 3 r39.1) r37.2).bind fun v40_1 => some v40_1) = some r40.1 ∧ ((rrun Tryz.prog (Instr.loadAt 3 r39.1) r38.2).bind fun v40_2 => some v40_2) = some r40.1) ∧ True)
  (some (Res.ret [r42.1] r42.2)))).bind Res.done
theorem f83.eq (call dfr : CallF) (ahead0 : Value) (e1 : Value) (W0 : World) : aFun Tryz.prog call dfr Tryz.f83 f83.ann (ofArgs #[ahead0, e1]) W0 = f83 call ahead0 e1 W0 := by kernel_rfl

/-- unicode/utf8.AppendRune -/
def f89.ann : Ann := (.s .z (.s (.s .z (.c (.s .z .z) .z)) (.s .z .z)))
noncomputable def f89 (call : CallF) (p0 : Value) (r1 : Value) (W0 : World) : Option (Value × World) :=
  ((prun Tryz.prog (convert 21 190 r1)).bind fun v6 =>
  (bin .leq v6 (Value.int IntKind.u32 127)).bind fun v7 =>
  (asB v7).bind fun c7 =>
  if c7 then
    (prun Tryz.prog (convert 21 5 r1)).bind fun v10 =>
    (erun Tryz.prog (Instr.buildSlice 160 1 #[(0, v10)]) W0).bind fun r11 =>
    (erun Tryz.prog (Builtin.append_ #[160, 160] 160 #[p0, r11.1]) r11.2).bind fun r12 =>
    some (Res.ret [r12.1] r12.2)
  else
  (call 109 #[p0, r1] W0).bind fun r15 =>
  some (Res.ret [r15.1] r15.2)).bind Res.done
theorem f89.eq (call dfr : CallF) (p0 : Value) (r1 : Value) (W0 : World) : aFun Tryz.prog call dfr Tryz.f89 f89.ann (ofArgs #[p0, r1]) W0 = f89 call p0 r1 W0 := by kernel_rfl

/-- dailies/timecode.Name -/
def f90.ann : Ann := (.s .z (.s .z (.s (.s .z (.c (.s .z .z) .z)) (.s .z (.s .z (.s .z (.s .z (.s .z (.s .z .z)))))))))
noncomputable def f90 (call : CallF) (r0 : Value) (n1 : Value) (W0 : World) : Option (Value × World) :=
  ((call 110 #[r0, n1] W0).bind fun r14 =>
  (prun Tryz.prog (Instr.extract r14.1 0)).bind fun v15 =>
  (prun Tryz.prog (Instr.extract r14.1 1)).bind fun v16 =>
  (erun Tryz.prog (Instr.alloc 145 true (.tuple #[])) r14.2).bind fun r6 =>
  (erun Tryz.prog (Instr.storeAt 145 r6.1 v15) r6.2).bind fun r =>
  (bin .neq v16 (Value.int IntKind.i64 0)).bind fun v18 =>
  (asB v18).bind fun c18 =>
  if c18 then
    some (Res.ret [(Value.string { data := #[] }), v16] r.2)
  else
  (rrun Tryz.prog (Instr.loadAt 145 r6.1) r.2).bind fun v21 =>
  (call 111 #[v21, n1] r.2).bind fun r23 =>
  (bin .add n1 r23.1).bind fun v24 =>
  (prun Tryz.prog (Instr.fieldAt 145 r6.1 0)).bind fun v26 =>
  (rrun Tryz.prog (Instr.loadAt 3 v26) r23.2.drew).bind fun v27 =>
  (bin .rem v24 v27).bind fun v28 =>
  (prun Tryz.prog (Instr.fieldAt 145 r6.1 0)).bind fun v30 =>
  (rrun Tryz.prog (Instr.loadAt 3 v30) r23.2.drew).bind fun v31 =>
  (bin .quo v24 v31).bind fun v32 =>
  (bin .quo v32 (Value.int IntKind.i64 3600)).bind fun v34 =>
  (call 112 #[(Value.slice none 0 0), v34] r23.2.drew).bind fun r35 =>
  (erun Tryz.prog (Instr.buildSlice 160 1 #[(0, (Value.int IntKind.u8 58))]) r35.2).bind fun r36 =>
  (erun Tryz.prog (Builtin.append_ #[160, 160] 160 #[r35.1, r36.1]) r36.2).bind fun r37 =>
  (bin .quo v32 (Value.int IntKind.i64 60)).bind fun v40 =>
  (bin .rem v40 (Value.int IntKind.i64 60)).bind fun v41 =>
  (call 112 #[r37.1, v41] r37.2).bind fun r42 =>
  (erun Tryz.prog (Instr.buildSlice 160 1 #[(0, (Value.int IntKind.u8 58))]) r42.2).bind fun r43 =>
  (erun Tryz.prog (Builtin.append_ #[160, 160] 160 #[r42.1, r43.1]) r43.2).bind fun r44 =>
  ((bin .rem v32 (Value.int IntKind.i64 60)).bind fun v47 =>
  some (v47, r44.2.drew)).bind fun r47 =>
  ((call 112 #[r44.1, r47.1] r47.2).bind fun r48_1 =>
  some (r48_1.1, r48_1.2)).bind fun r48 =>
  ((rrun Tryz.prog (Instr.loadAt 145 r6.1) r48.2).bind fun v49 =>
  some (v49, r48.2)).bind fun r49 =>
  ((call 113 #[r49.1] r49.2).bind fun r50_1 =>
  some (r50_1.1, r50_1.2)).bind fun r50 =>
  ((erun Tryz.prog (Instr.buildSlice 160 1 #[(0, r50.1)]) r50.2).bind fun r51_1 =>
  some (r51_1.1, r51_1.2)).bind fun r51 =>
  ((erun Tryz.prog (Builtin.append_ #[160, 160] 160 #[r48.1, r51.1]) r51.2).bind fun r52_1 =>
  some (r52_1.1, r52_1.2)).bind fun r52 =>
  chkThen ((((rrun Tryz.prog (Instr.loadAt 145 r6.1) r47.2).bind fun v49_1 => some v49_1) = some r49.1 ∧ ((rrun Tryz.prog (Instr.loadAt 145 r6.1) r48.2).bind fun v49_2 => some v49_2) = some r49.1) ∧ True)
  ((call 112 #[r52.1, v28] r52.2).bind fun r55 =>
  (rrun Tryz.prog (convert 160 9 r55.1) r55.2).bind fun v56 =>
  some (Res.ret [v56, (Value.int IntKind.i64 0)] r55.2))).bind Res.done
theorem f90.eq (call dfr : CallF) (r0 : Value) (n1 : Value) (W0 : World) : aFun Tryz.prog call dfr Tryz.f90 f90.ann (ofArgs #[r0, n1]) W0 = f90 call r0 n1 W0 := by kernel_rfl

/-- unicode/utf8.decodeRuneInStringSlow -/
def f92.ann : Ann := (.s .z (.s .z (.s (.s .z (.c (.s .z .z) .z)) (.s .z (.s .z (.s (.s .z (.c (.s .z (.s .z .z)) .z)) (.s .z (.s .z (.s (.s .z (.c (.s .z .z) .z)) (.s .z (.s (.s .z (.c (.s .z .z) .z)) (.s (.s .z (.c (.s .z .z) .z)) (.s .z (.s (.s .z (.c (.s .z .z) .z)) (.s (.s .z (.c (.s .z .z) .z)) (.s .z (.s (.s .z (.c (.s .z .z) .z)) (.s .z .z))))))))))))))))))
noncomputable def f92 (call : CallF) (s0 : Value) (W0 : World) : Option (Value × World) :=
  ((prun Tryz.prog (Builtin.len_ #[9] 3 #[s0])).bind fun v14 =>
  (bin .lss v14 (Value.int IntKind.i64 1)).bind fun v16 =>
  (asB v16).bind fun c16 =>
  if c16 then
    some (Res.ret [(Value.int IntKind.i32 65533), (Value.int IntKind.i64 0)] W0)
  else
  (prun Tryz.prog (Instr.index 9 s0 (Value.int IntKind.i64 0))).bind fun v18 =>
  (prun Tryz.prog (Instr.indexAt 150 (.pointer (some ⟨1, 0, none⟩)) v18)).bind fun v20 =>
  (rrun Tryz.prog (Instr.loadAt 5 v20) W0).bind fun v21 =>
  (bin .geq v21 (Value.int IntKind.u8 240)).bind fun v23 =>
  (asB v23).bind fun c23 =>
  if c23 then
    (prun Tryz.prog (convert 5 21 v21)).bind fun v25 =>
    (prun Tryz.prog (do eqGuard .shl 21 (Operand.tmp 25) (Operand.const (Value.int IntKind.u64 31)) v25 (Value.int IntKind.u64 31); binOp .shl 21 v25 (Value.int IntKind.u64 31))).bind fun v26 =>
    (prun Tryz.prog (do eqGuard .shr 21 (Operand.tmp 26) (Operand.const (Value.int IntKind.u64 31)) v26 (Value.int IntKind.u64 31); binOp .shr 21 v26 (Value.int IntKind.u64 31))).bind fun v27 =>
    (prun Tryz.prog (Instr.index 9 s0 (Value.int IntKind.i64 0))).bind fun v29 =>
    (prun Tryz.prog (convert 5 21 v29)).bind fun v30 =>
    (prun Tryz.prog (do eqGuard .andNot 21 (Operand.tmp 30) (Operand.tmp 31) v30 v27; binOp .andNot 21 v30 v27)).bind fun v32 =>
    (prun Tryz.prog (do eqGuard .and 21 (Operand.const (Value.int IntKind.i32 65533)) (Operand.tmp 33) (Value.int IntKind.i32 65533) v27; binOp .and 21 (Value.int IntKind.i32 65533) v27)).bind fun v34 =>
    (prun Tryz.prog (do eqGuard .or 21 (Operand.tmp 32) (Operand.tmp 34) v32 v34; binOp .or 21 v32 v34)).bind fun v35 =>
    some (Res.ret [v35, (Value.int IntKind.i64 1)] W0)
  else
  (prun Tryz.prog (do eqGuard .and 5 (Operand.tmp 36) (Operand.const (Value.int IntKind.u8 7)) v21 (Value.int IntKind.u8 7); binOp .and 5 v21 (Value.int IntKind.u8 7))).bind fun v37 =>
  (prun Tryz.prog (convert 5 3 v37)).bind fun v38 =>
  (prun Tryz.prog (do eqGuard .shr 5 (Operand.tmp 39) (Operand.const (Value.int IntKind.u64 4)) v21 (Value.int IntKind.u64 4); binOp .shr 5 v21 (Value.int IntKind.u64 4))).bind fun v40 =>
  (prun Tryz.prog (Instr.indexAt 153 (.pointer (some ⟨2, 0, none⟩)) v40)).bind fun v41 =>
  (rrun Tryz.prog (Instr.loadAt 152 v41) W0).bind fun v42 =>
  (erun Tryz.prog (Instr.alloc 152 true (.tuple #[])) W0).bind fun r9 =>
  (erun Tryz.prog (Instr.storeAt 152 r9.1 v42) r9.2).bind fun r =>
  (bin .lss v14 v38).bind fun v45 =>
  (asB v45).bind fun c45 =>
  if c45 then
    some (Res.ret [(Value.int IntKind.i32 65533), (Value.int IntKind.i64 1)] r.2)
  else
  (prun Tryz.prog (Instr.index 9 s0 (Value.int IntKind.i64 1))).bind fun v47 =>
  (prun Tryz.prog (Instr.fieldAt 152 r9.1 0)).bind fun v49 =>
  (rrun Tryz.prog (Instr.loadAt 5 v49) r.2).bind fun v50 =>
  (bin .lss v47 v50).bind fun v51 =>
  (asB v51).bind fun b52 =>
  (if b52 = false then (prun Tryz.prog (Instr.fieldAt 152 r9.1 1)).bind fun v53 =>
    (rrun Tryz.prog (Instr.loadAt 5 v53) r.2).bind fun v54 =>
    (bin .lss v54 v47).bind fun v56 =>
    some (v56, r.2)
   else some ((Value.bool true), r.2)).bind fun r57 =>
  (asB r57.1).bind fun c57 =>
  if c57 then
    some (Res.ret [(Value.int IntKind.i32 65533), (Value.int IntKind.i64 1)] r57.2)
  else
  (bin .leq v38 (Value.int IntKind.i64 2)).bind fun v59 =>
  (asB v59).bind fun c59 =>
  if c59 then
    (prun Tryz.prog (do eqGuard .and 5 (Operand.tmp 60) (Operand.const (Value.int IntKind.u8 31)) v18 (Value.int IntKind.u8 31); binOp .and 5 v18 (Value.int IntKind.u8 31))).bind fun v61 =>
    (prun Tryz.prog (convert 5 21 v61)).bind fun v62 =>
    (prun Tryz.prog (do eqGuard .shl 21 (Operand.tmp 62) (Operand.const (Value.int IntKind.u64 6)) v62 (Value.int IntKind.u64 6); binOp .shl 21 v62 (Value.int IntKind.u64 6))).bind fun v63 =>
    (prun Tryz.prog (do eqGuard .and 5 (Operand.tmp 64) (Operand.const (Value.int IntKind.u8 63)) v47 (Value.int IntKind.u8 63); binOp .and 5 v47 (Value.int IntKind.u8 63))).bind fun v65 =>
    (prun Tryz.prog (convert 5 21 v65)).bind fun v66 =>
    (prun Tryz.prog (do eqGuard .or 21 (Operand.tmp 63) (Operand.tmp 66) v63 v66; binOp .or 21 v63 v66)).bind fun v67 =>
    some (Res.ret [v67, (Value.int IntKind.i64 2)] r57.2)
  else
  (prun Tryz.prog (Instr.index 9 s0 (Value.int IntKind.i64 2))).bind fun v69 =>
  (bin .lss v69 (Value.int IntKind.u8 128)).bind fun v71 =>
  (asB v71).bind fun b72 =>
  (if b72 = false then (bin .lss (Value.int IntKind.u8 191) v69).bind fun v74 =>
    some (v74, r57.2)
   else some ((Value.bool true), r57.2)).bind fun r75 =>
  (asB r75.1).bind fun c75 =>
  if c75 then
    some (Res.ret [(Value.int IntKind.i32 65533), (Value.int IntKind.i64 1)] r75.2)
  else
  (bin .leq v38 (Value.int IntKind.i64 3)).bind fun v77 =>
  (asB v77).bind fun c77 =>
  if c77 then
    (prun Tryz.prog (do eqGuard .and 5 (Operand.tmp 78) (Operand.const (Value.int IntKind.u8 15)) v18 (Value.int IntKind.u8 15); binOp .and 5 v18 (Value.int IntKind.u8 15))).bind fun v79 =>
    (prun Tryz.prog (convert 5 21 v79)).bind fun v80 =>
    (prun Tryz.prog (do eqGuard .shl 21 (Operand.tmp 80) (Operand.const (Value.int IntKind.u64 12)) v80 (Value.int IntKind.u64 12); binOp .shl 21 v80 (Value.int IntKind.u64 12))).bind fun v81 =>
    (prun Tryz.prog (do eqGuard .and 5 (Operand.tmp 82) (Operand.const (Value.int IntKind.u8 63)) v47 (Value.int IntKind.u8 63); binOp .and 5 v47 (Value.int IntKind.u8 63))).bind fun v83 =>
    (prun Tryz.prog (convert 5 21 v83)).bind fun v84 =>
    (prun Tryz.prog (do eqGuard .shl 21 (Operand.tmp 84) (Operand.const (Value.int IntKind.u64 6)) v84 (Value.int IntKind.u64 6); binOp .shl 21 v84 (Value.int IntKind.u64 6))).bind fun v85 =>
    (prun Tryz.prog (do eqGuard .or 21 (Operand.tmp 81) (Operand.tmp 85) v81 v85; binOp .or 21 v81 v85)).bind fun v86 =>
    (prun Tryz.prog (do eqGuard .and 5 (Operand.tmp 87) (Operand.const (Value.int IntKind.u8 63)) v69 (Value.int IntKind.u8 63); binOp .and 5 v69 (Value.int IntKind.u8 63))).bind fun v88 =>
    (prun Tryz.prog (convert 5 21 v88)).bind fun v89 =>
    (prun Tryz.prog (do eqGuard .or 21 (Operand.tmp 86) (Operand.tmp 89) v86 v89; binOp .or 21 v86 v89)).bind fun v90 =>
    some (Res.ret [v90, (Value.int IntKind.i64 3)] r75.2)
  else
  (prun Tryz.prog (Instr.index 9 s0 (Value.int IntKind.i64 3))).bind fun v92 =>
  (bin .lss v92 (Value.int IntKind.u8 128)).bind fun v94 =>
  (asB v94).bind fun b95 =>
  (if b95 = false then (bin .lss (Value.int IntKind.u8 191) v92).bind fun v97 =>
    some (v97, r75.2)
   else some ((Value.bool true), r75.2)).bind fun r98 =>
  (asB r98.1).bind fun c98 =>
  if c98 then
    some (Res.ret [(Value.int IntKind.i32 65533), (Value.int IntKind.i64 1)] r98.2)
  else
  (prun Tryz.prog (do eqGuard .and 5 (Operand.tmp 99) (Operand.const (Value.int IntKind.u8 7)) v18 (Value.int IntKind.u8 7); binOp .and 5 v18 (Value.int IntKind.u8 7))).bind fun v100 =>
  (prun Tryz.prog (convert 5 21 v100)).bind fun v101 =>
  (prun Tryz.prog (do eqGuard .shl 21 (Operand.tmp 101) (Operand.const (Value.int IntKind.u64 18)) v101 (Value.int IntKind.u64 18); binOp .shl 21 v101 (Value.int IntKind.u64 18))).bind fun v102 =>
  (prun Tryz.prog (do eqGuard .and 5 (Operand.tmp 103) (Operand.const (Value.int IntKind.u8 63)) v47 (Value.int IntKind.u8 63); binOp .and 5 v47 (Value.int IntKind.u8 63))).bind fun v104 =>
  (prun Tryz.prog (convert 5 21 v104)).bind fun v105 =>
  (prun Tryz.prog (do eqGuard .shl 21 (Operand.tmp 105) (Operand.const (Value.int IntKind.u64 12)) v105 (Value.int IntKind.u64 12); binOp .shl 21 v105 (Value.int IntKind.u64 12))).bind fun v106 =>
  (prun Tryz.prog (do eqGuard .or 21 (Operand.tmp 102) (Operand.tmp 106) v102 v106; binOp .or 21 v102 v106)).bind fun v107 =>
  (prun Tryz.prog (do eqGuard .and 5 (Operand.tmp 108) (Operand.const (Value.int IntKind.u8 63)) v69 (Value.int IntKind.u8 63); binOp .and 5 v69 (Value.int IntKind.u8 63))).bind fun v109 =>
  (prun Tryz.prog (convert 5 21 v109)).bind fun v110 =>
  (prun Tryz.prog (do eqGuard .shl 21 (Operand.tmp 110) (Operand.const (Value.int IntKind.u64 6)) v110 (Value.int IntKind.u64 6); binOp .shl 21 v110 (Value.int IntKind.u64 6))).bind fun v111 =>
  (prun Tryz.prog (do eqGuard .or 21 (Operand.tmp 107) (Operand.tmp 111) v107 v111; binOp .or 21 v107 v111)).bind fun v112 =>
  (prun Tryz.prog (do eqGuard .and 5 (Operand.tmp 113) (Operand.const (Value.int IntKind.u8 63)) v92 (Value.int IntKind.u8 63); binOp .and 5 v92 (Value.int IntKind.u8 63))).bind fun v114 =>
  (prun Tryz.prog (convert 5 21 v114)).bind fun v115 =>
  (prun Tryz.prog (do eqGuard .or 21 (Operand.tmp 112) (Operand.tmp 115) v112 v115; binOp .or 21 v112 v115)).bind fun v116 =>
  some (Res.ret [v116, (Value.int IntKind.i64 4)] r98.2)).bind Res.done
theorem f92.eq (call dfr : CallF) (s0 : Value) (W0 : World) : aFun Tryz.prog call dfr Tryz.f92 f92.ann (ofArgs #[s0]) W0 = f92 call s0 W0 := by kernel_rfl

/-- strings.IndexRune -/
def f94.ann : Ann := (.s .z (.b [4] (.s .z (.c (.s .z .z) (.s .z (.c (.s (.s .z (.b [] (.l [175] (.s .z (.s (.c .z .z) (.b [175] (.s .z (.s .z (.c (.s .z .z) .z))))))))) (.s .z .z)) (.s .z (.c (.s .z .z) (.s .z (.s .z (.s .z (.s .z (.s (.b [] (.l [0, 7, 8, 9] (.s (.s .z (.c .z .z)) (.b [0, 7, 8, 9] (.s (.s .z (.j [0, 7, 8, 9] (.s .z (.s (.s .z (.c (.s .z .z) .z)) .z)) .z)) (.s (.s .z (.b [8, 9] (.l [0, 7, 8, 9, 12] (.s (.s .z (.c .z .z)) (.s (.b [0, 7, 8, 9, 12] (.s .z (.c .z .z))) .z))))) (.s (.s .z .z) .z))))))) (.s (.s .z .z) .z))))))))))))))
noncomputable def f94.l0 (call : CallF) (vs : List Value) (W1 : World) : Option Res :=
  let v175 := nth vs 0
  (erun Tryz.prog (Instr.next v175 true 0) W1).bind fun r176 =>
  (prun Tryz.prog (Instr.extract r176.1 0)).bind fun v177 =>
  (asB v177).bind fun c177 =>
  if c177 then
    ((prun Tryz.prog (Instr.extract r176.1 1)).bind fun v178 =>
    (prun Tryz.prog (Instr.extract r176.1 2)).bind fun v179 =>
    (bin .eql v179 (Value.int IntKind.i32 65533)).bind fun v181 =>
    (asB v181).bind fun c181 =>
    if c181 then
      some (Res.ret [v178] r176.2)
    else
    some (Res.norm [v175] r176.2)).bind fun (r : Res) => (r.unblock 10).cont fun vs_1 W2 =>
    let v175_1 := nth vs_1 0
    some (Res.norm [v175_1] W2)
  else
  some (Res.exit 9 [] r176.2)
noncomputable def f94.l1 (call : CallF) (vs_5 : List Value) (W6 : World) : Option Res :=
  let t0_3 := nth vs_5 0
  let v7_2 := nth vs_5 1
  let v8_2 := nth vs_5 2
  let v9_2 := nth vs_5 3
  let v12 := nth vs_5 4
  (prun Tryz.prog (Builtin.len_ #[9] 3 #[v7_2])).bind fun v50 =>
  (bin .lss v12 v50).bind fun v51 =>
  (asB v51).bind fun c51 =>
  if c51 then
    ((bin .sub v9_2 v12).bind fun v57 =>
    (prun Tryz.prog (Instr.index 9 t0_3 v57)).bind fun v58 =>
    (bin .sub v8_2 v12).bind fun v62 =>
    (prun Tryz.prog (Instr.index 9 v7_2 v62)).bind fun v63 =>
    (bin .neq v58 v63).bind fun v64 =>
    (asB v64).bind fun c64 =>
    if c64 then
      none
    else
    some (Res.norm [t0_3, v7_2, v8_2, v9_2, v12] W6.drew)).bind fun (r : Res) => (r.unblock 4).cont fun vs_6 W7 =>
    let t0_4 := nth vs_6 0
    let v7_3 := nth vs_6 1
    let v8_3 := nth vs_6 2
    let v9_3 := nth vs_6 3
    let v12_1 := nth vs_6 4
    (bin .add v12_1 (Value.int IntKind.i64 1)).bind fun v53 =>
    some (Res.norm [t0_4, v7_3, v8_3, v9_3, v53] W7)
  else
  some (Res.exit 3 [v8_2, v9_2] W6)
noncomputable def f94.l2 (call : CallF) (vs_3 : List Value) (W4 : World) : Option Res :=
  let t0_1 := nth vs_3 0
  let v7 := nth vs_3 1
  let v8 := nth vs_3 2
  let v9 := nth vs_3 3
  (prun Tryz.prog (Builtin.len_ #[9] 3 #[t0_1])).bind fun v25 =>
  (bin .lss v9 v25).bind fun v26 =>
  (asB v26).bind fun c26 =>
  if c26 then
    ((prun Tryz.prog (Instr.index 9 t0_1 v9)).bind fun v29 =>
    (prun Tryz.prog (Instr.index 9 v7 v8)).bind fun v32 =>
    (bin .neq v29 v32).bind fun v33 =>
    (asB v33).bind fun c33 =>
    (if c33 then
      (bin .add v9 (Value.int IntKind.i64 1)).bind fun v36 =>
      (prun Tryz.prog (Instr.sliceAt 9 t0_1 (some v36) none none)).bind fun v37 =>
      (prun Tryz.prog (Instr.index 9 v7 v8)).bind fun v40 =>
      (call 25 #[v37, v40] W4.drew.drew).bind fun r41 =>
      (bin .lss r41.1 (Value.int IntKind.i64 0)).bind fun v43 =>
      (asB v43).bind fun c43 =>
      if c43 then
        some (Res.ret [(Value.int IntKind.i64 (-1))] r41.2)
      else
      (bin .add r41.1 (Value.int IntKind.i64 1)).bind fun v46 =>
      (bin .add v9 v46).bind fun v47 =>
      some (Res.norm [t0_1, v7, v8, v47] r41.2)
     else
      some (Res.norm [t0_1, v7, v8, v9] W4.drew)).bind fun (r : Res) => r.cont fun vs_4 W5 =>
    let t0_2 := nth vs_4 0
    let v7_1 := nth vs_4 1
    let v8_1 := nth vs_4 2
    let v9_1 := nth vs_4 3
    (iter (f94.l1 call) [t0_2, v7_1, v8_1, v9_1, (Value.int IntKind.i64 1)] W5).bind fun (r : Res) => (r.unblock 3).cont fun vs_7 W8 =>
    let v8_4 := nth vs_7 0
    let v9_4 := nth vs_7 1
    (bin .sub v9_4 v8_4).bind fun v67 =>
    some (Res.ret [v67] W8)).bind fun (r : Res) => (r.unblock 2).cont fun vs_8 W9 =>
    let t0_5 := nth vs_8 0
    let v7_4 := nth vs_8 1
    let v8_5 := nth vs_8 2
    let v9_5 := nth vs_8 3
    some (Res.norm [t0_5, v7_4, v8_5, v9_5] W9)
  else
  some (Res.exit 1 [] W4)
noncomputable def f94 (call : CallF) (t0 : Value) (o1 : Value) (W0 : World) : Option (Value × World) :=
  (((bin .leq (Value.int IntKind.i32 0) o1).bind fun v162 =>
  (asB v162).bind fun b163 =>
  (if b163 = true then (bin .lss o1 (Value.int IntKind.i32 128)).bind fun v165 =>
    some (v165, W0)
   else some ((Value.bool false), W0)).bind fun r166 =>
  (asB r166.1).bind fun c160 =>
  if c160 then
    (prun Tryz.prog (convert 21 5 o1)).bind fun v169 =>
    (call 25 #[t0, v169] r166.2).bind fun r170 =>
    some (Res.ret [r170.1] r170.2)
  else
  (bin .eql o1 (Value.int IntKind.i32 65533)).bind fun v173 =>
  (asB v173).bind fun c171 =>
  if c171 then
    (erun Tryz.prog (Instr.range 9 t0) r166.2).bind fun r175 =>
    (iter (f94.l0 call) [r175.1] r175.2).bind fun (r : Res) => (r.unblock 9).cont fun vs_2 W3 =>
    some (Res.ret [(Value.int IntKind.i64 (-1))] W3)
  else
  (call 115 #[o1] r166.2).bind fun r185 =>
  (prun Tryz.prog (Op.unary .not r185.1)).bind fun v186 =>
  (asB v186).bind fun c183 =>
  if c183 then
    some (Res.ret [(Value.int IntKind.i64 (-1))] r185.2)
  else
  (erun Tryz.prog (convert 21 9 o1) r185.2).bind fun r18 =>
  (prun Tryz.prog (Builtin.len_ #[9] 3 #[r18.1])).bind fun v20 =>
  (bin .sub v20 (Value.int IntKind.i64 1)).bind fun v21 =>
  (iter (f94.l2 call) [t0, r18.1, v21, v21] r18.2).bind fun (r : Res) => (r.unblock 1).cont fun vs_9 W10 =>
  some (Res.ret [(Value.int IntKind.i64 (-1))] W10)).bind fun (r : Res) => (r.unblock 0).cont fun vs_10 W11 =>
  let r4 := nth vs_10 0
  some (Res.norm [r4] W11)).bind Res.done
theorem f94.eq (call dfr : CallF) (t0 : Value) (o1 : Value) (W0 : World) : aFun Tryz.prog call dfr Tryz.f94 f94.ann (ofArgs #[t0, o1]) W0 = f94 call t0 o1 W0 := by kernel_rfl

/-- strings.shouldUseASCIISet -/
def f95.ann : Ann := (.s .z (.s .z .z))
noncomputable def f95 (call : CallF) (bufLen0 : Value) (W0 : World) : Option (Value × World) :=
  ((bin .gtr bufLen0 (Value.int IntKind.i64 8)).bind fun v4 =>
  some (Res.ret [v4] W0)).bind Res.done
theorem f95.eq (call dfr : CallF) (bufLen0 : Value) (W0 : World) : aFun Tryz.prog call dfr Tryz.f95 f95.ann (ofArgs #[bufLen0]) W0 = f95 call bufLen0 W0 := by kernel_rfl

/-- (*strings.asciiSet).contains -/
def f97.ann : Ann := (.s .z (.s .z .z))
noncomputable def f97 (call : CallF) (as0 : Value) (c1 : Value) (W0 : World) : Option (Value × World) :=
  ((nilV Tryz.prog as0).bind fun v7 =>
  (prun Tryz.prog (Instr.indexAt 175 v7 c1)).bind fun v8 =>
  (rrun Tryz.prog (Instr.loadAt 4 v8) W0).bind fun v9 =>
  some (Res.ret [v9] W0)).bind Res.done
theorem f97.eq (call dfr : CallF) (as0 : Value) (c1 : Value) (W0 : World) : aFun Tryz.prog call dfr Tryz.f97 f97.ann (ofArgs #[as0, c1]) W0 = f97 call as0 c1 W0 := by kernel_rfl

/-- internal/strconv.Atoi -/
def f98.ann : Ann := (.s .z (.s .z (.s (.s .z (.c (.s .z (.s (.s .z (.j [0, 5] (.s .z (.s .z (.c (.s .z .z) .z))) .z)) (.s .z (.s (.s .z (.b [5, 6] (.l [5, 6, 47, 48, 49] (.s .z (.s (.c .z .z) (.s (.b [5, 6, 47, 48, 49] (.s .z (.s .z (.s (.s .z (.c (.s .z .z) .z)) .z)))) .z)))))) (.s (.s .z (.j [6] .z .z)) (.s .z .z)))))) .z)) (.s .z (.s .z .z)))))
noncomputable def f98.l0 (call : CallF) (vs_1 : List Value) (W2 : World) : Option Res :=
  let s05_1 := nth vs_1 0
  let n6 := nth vs_1 1
  let v47 := nth vs_1 2
  let v48_1 := nth vs_1 3
  let v49 := nth vs_1 4
  (bin .lss v49 v48_1).bind fun v50 =>
  (asB v50).bind fun c50 =>
  if c50 then
    ((prun Tryz.prog (Instr.indexAt 160 v47 v49)).bind fun v51 =>
    (rrun Tryz.prog (Instr.loadAt 5 v51) W2).bind fun v52 =>
    (bin .sub v52 (Value.int IntKind.u8 48)).bind fun v54 =>
    (bin .gtr v54 (Value.int IntKind.u8 9)).bind fun v56 =>
    (asB v56).bind fun c56 =>
    if c56 then
      (prun Tryz.prog (Instr.makeInterface 198 (Value.int IntKind.i64 2))).bind fun v57 =>
      some (Res.ret [(Value.int IntKind.i64 0), v57] W2)
    else
    (bin .mul n6 (Value.int IntKind.i64 10)).bind fun v59 =>
    (prun Tryz.prog (convert 5 3 v54)).bind fun v61 =>
    (bin .add v59 v61).bind fun v62 =>
    some (Res.norm [s05_1, v62, v47, v48_1, v49] W2)).bind fun (r : Res) => (r.unblock 1).cont fun vs_2 W3 =>
    let s05_2 := nth vs_2 0
    let n6_1 := nth vs_2 1
    let v47_1 := nth vs_2 2
    let v48_2 := nth vs_2 3
    let v49_1 := nth vs_2 4
    (bin .add v49_1 (Value.int IntKind.i64 1)).bind fun v63 =>
    some (Res.norm [s05_2, n6_1, v47_1, v48_2, v63] W3)
  else
  some (Res.exit 0 [s05_1, n6] W2)
noncomputable def f98 (call : CallF) (s0 : Value) (W0 : World) : Option (Value × World) :=
  ((prun Tryz.prog (Builtin.len_ #[9] 3 #[s0])).bind fun v12 =>
  (asB (Value.bool false)).bind fun b13 =>
  (if b13 = true then (bin .lss (Value.int IntKind.i64 0) v12).bind fun v15 =>
    (asB v15).bind fun b16 =>
    (if b16 = true then (bin .lss v12 (Value.int IntKind.i64 10)).bind fun v18 =>
      some (v18, W0)
     else some ((Value.bool false), W0)).bind fun r19 =>
    some (r19.1, r19.2)
   else some ((Value.bool false), W0)).bind fun r20 =>
  (asB r20.1).bind fun b21 =>
  (if b21 = false then (asB (Value.bool true)).bind fun b22 =>
    (if b22 = true then (bin .lss (Value.int IntKind.i64 0) v12).bind fun v24 =>
      (asB v24).bind fun b25 =>
      (if b25 = true then (bin .lss v12 (Value.int IntKind.i64 19)).bind fun v27 =>
        some (v27, r20.2)
       else some ((Value.bool false), r20.2)).bind fun r28 =>
      some (r28.1, r28.2)
     else some ((Value.bool false), r20.2)).bind fun r29 =>
    some (r29.1, r29.2)
   else some ((Value.bool true), r20.2)).bind fun r30 =>
  (asB r30.1).bind fun c30 =>
  if c30 then
    (prun Tryz.prog (Instr.index 9 s0 (Value.int IntKind.i64 0))).bind fun v33 =>
    (bin .eql v33 (Value.int IntKind.u8 45)).bind fun v34 =>
    (asB v34).bind fun b35 =>
    (if b35 = false then (prun Tryz.prog (Instr.index 9 s0 (Value.int IntKind.i64 0))).bind fun v37 =>
      (bin .eql v37 (Value.int IntKind.u8 43)).bind fun v38 =>
      some (v38, r30.2)
     else some ((Value.bool true), r30.2)).bind fun r39 =>
    (asB r39.1).bind fun c39 =>
    (if c39 then
      (prun Tryz.prog (Instr.sliceAt 9 s0 (some (Value.int IntKind.i64 1)) none none)).bind fun v41 =>
      (prun Tryz.prog (Builtin.len_ #[9] 3 #[v41])).bind fun v43 =>
      (bin .lss v43 (Value.int IntKind.i64 1)).bind fun v44 =>
      (asB v44).bind fun c44 =>
      if c44 then
        (prun Tryz.prog (Instr.makeInterface 198 (Value.int IntKind.i64 2))).bind fun v45 =>
        some (Res.ret [(Value.int IntKind.i64 0), v45] r39.2)
      else
      some (Res.norm [v41, s0] r39.2)
     else
      some (Res.norm [s0, s0] r39.2)).bind fun (r : Res) => r.cont fun vs W1 =>
    let s0_1 := nth vs 0
    let s05 := nth vs 1
    (erun Tryz.prog (convert 9 160 s0_1) W1).bind fun r47 =>
    (prun Tryz.prog (Builtin.len_ #[160] 3 #[r47.1])).bind fun v48 =>
    (iter (f98.l0 call) [s05, (Value.int IntKind.i64 0), r47.1, v48, (Value.int IntKind.i64 0)] r47.2).bind fun (r : Res) => (r.unblock 0).cont fun vs_3 W4 =>
    let s05_3 := nth vs_3 0
    let n6_2 := nth vs_3 1
    (prun Tryz.prog (Instr.index 9 s05_3 (Value.int IntKind.i64 0))).bind fun v65 =>
    (bin .eql v65 (Value.int IntKind.u8 45)).bind fun v66 =>
    (asB v66).bind fun c66 =>
    (if c66 then
      (prun Tryz.prog (Op.unary .neg n6_2)).bind fun v68 =>
      some (Res.norm [v68] W4)
     else
      some (Res.norm [n6_2] W4)).bind fun (r : Res) => r.cont fun vs_4 W5 =>
    let n6_3 := nth vs_4 0
    some (Res.ret [n6_3, Value.nilIface] W5)
  else
  (call 118 #[s0, (Value.int IntKind.i64 10), (Value.int IntKind.i64 0)] r30.2).bind fun r72 =>
  (prun Tryz.prog (Instr.extract r72.1 0)).bind fun v73 =>
  (prun Tryz.prog (Instr.extract r72.1 1)).bind fun v74 =>
  some (Res.ret [v73, v74] r72.2)).bind Res.done
theorem f98.eq (call dfr : CallF) (s0 : Value) (W0 : World) : aFun Tryz.prog call dfr Tryz.f98 f98.ann (ofArgs #[s0]) W0 = f98 call s0 W0 := by kernel_rfl

/-- strconv.toError -/
def f99.ann : Ann := (.s .z (.s (.s .z (.b [4] (.s .z (.c (.s .z .z) (.s .z (.c (.s .z .z) (.s .z (.c (.s .z .z) (.s .z (.c (.s .z .z) .z)))))))))) (.s .z .z)))
noncomputable def f99 (call : CallF) (fn0 : Value) (s1 : Value) (base2 : Value) (bitSize3 : Value) (err4 : Value) (W0 : World) : Option (Value × World) :=
  (((prun Tryz.prog (Instr.makeInterface 198 (Value.int IntKind.i64 2))).bind fun v13 =>
  (rrun Tryz.prog (do eqGuard .eql 32 (Operand.tmp 11) (Operand.tmp 13) err4 v13; binOp .eql 32 err4 v13) W0).bind fun v14 =>
  (asB v14).bind fun c12 =>
  if c12 then
    (call 119 #[fn0, s1] W0).bind fun r17 =>
    (prun Tryz.prog (Instr.makeInterface 201 r17.1)).bind fun v18 =>
    some (Res.ret [v18] r17.2)
  else
  (prun Tryz.prog (Instr.makeInterface 198 (Value.int IntKind.i64 1))).bind fun v20 =>
  (rrun Tryz.prog (do eqGuard .eql 32 (Operand.tmp 11) (Operand.tmp 20) err4 v20; binOp .eql 32 err4 v20) W0).bind fun v21 =>
  (asB v21).bind fun c19 =>
  if c19 then
    (call 120 #[fn0, s1] W0).bind fun r24 =>
    (prun Tryz.prog (Instr.makeInterface 201 r24.1)).bind fun v25 =>
    some (Res.ret [v25] r24.2)
  else
  (prun Tryz.prog (Instr.makeInterface 198 (Value.int IntKind.i64 3))).bind fun v27 =>
  (rrun Tryz.prog (do eqGuard .eql 32 (Operand.tmp 11) (Operand.tmp 27) err4 v27; binOp .eql 32 err4 v27) W0).bind fun v28 =>
  (asB v28).bind fun c26 =>
  if c26 then
    (call 121 #[fn0, s1, base2] W0).bind fun r32 =>
    (prun Tryz.prog (Instr.makeInterface 201 r32.1)).bind fun v33 =>
    some (Res.ret [v33] r32.2)
  else
  (prun Tryz.prog (Instr.makeInterface 198 (Value.int IntKind.i64 4))).bind fun v35 =>
  (rrun Tryz.prog (do eqGuard .eql 32 (Operand.tmp 11) (Operand.tmp 35) err4 v35; binOp .eql 32 err4 v35) W0).bind fun v36 =>
  (asB v36).bind fun c34 =>
  if c34 then
    (call 122 #[fn0, s1, bitSize3] W0).bind fun r40 =>
    (prun Tryz.prog (Instr.makeInterface 201 r40.1)).bind fun v41 =>
    some (Res.ret [v41] r40.2)
  else
  some (Res.norm [err4] W0)).bind fun (r : Res) => (r.unblock 0).cont fun vs W1 =>
  let err4_1 := nth vs 0
  some (Res.ret [err4_1] W1)).bind Res.done
theorem f99.eq (call dfr : CallF) (fn0 : Value) (s1 : Value) (base2 : Value) (bitSize3 : Value) (err4 : Value) (W0 : World) : aFun Tryz.prog call dfr Tryz.f99 f99.ann (ofArgs #[fn0, s1, base2, bitSize3, err4]) W0 = f99 call fn0 s1 base2 bitSize3 err4 W0 := by kernel_rfl

/-- dailies/timecode.Number -/
def f100.ann : Ann := (.s .z (.s .z (.s (.s .z (.c (.s .z .z) .z)) (.s .z (.s (.s .z (.c (.s .z .z) .z)) (.s .z .z))))))
noncomputable def f100 (call : CallF) (r0 : Value) (s1 : Value) (W0 : World) : Option (Value × World) :=
  ((call 80 #[r0] W0).bind fun r13 =>
  (prun Tryz.prog (Instr.extract r13.1 0)).bind fun v14 =>
  (prun Tryz.prog (Instr.extract r13.1 1)).bind fun v15 =>
  (erun Tryz.prog (Instr.alloc 145 true (.tuple #[])) r13.2).bind fun r6 =>
  (erun Tryz.prog (Instr.storeAt 145 r6.1 v14) r6.2).bind fun r =>
  (prun Tryz.prog (Op.unary .not v15)).bind fun v17 =>
  (asB v17).bind fun c17 =>
  if c17 then
    (prun Tryz.prog (Instr.build 83 #[(0, (Value.int IntKind.i64 0)), (1, (Value.int IntKind.i64 181))])).bind fun v18 =>
    (erun Tryz.prog (Instr.box 83 v18) r.2).bind fun r19 =>
    (prun Tryz.prog (Instr.makeInterface 82 r19.1)).bind fun v20 =>
    some (Res.ret [(Value.int IntKind.i64 0), v20] r19.2)
  else
  (rrun Tryz.prog (Instr.loadAt 145 r6.1) r.2).bind fun v22 =>
  (call 123 #[v22, s1] r.2).bind fun r24 =>
  (prun Tryz.prog (Instr.extract r24.1 0)).bind fun v25 =>
  (prun Tryz.prog (Instr.extract r24.1 1)).bind fun v26 =>
  (prun Tryz.prog (Instr.extract r24.1 2)).bind fun v27 =>
  (bin .neq v27 (Value.int IntKind.i64 0)).bind fun v29 =>
  (asB v29).bind fun c29 =>
  if c29 then
    (prun Tryz.prog (Instr.build 83 #[(0, v26), (1, v27)])).bind fun v32 =>
    (erun Tryz.prog (Instr.box 83 v32) r24.2).bind fun r33 =>
    (prun Tryz.prog (Instr.makeInterface 82 r33.1)).bind fun v34 =>
    some (Res.ret [(Value.int IntKind.i64 0), v34] r33.2)
  else
  some (Res.ret [v25, Value.nilIface] r24.2)).bind Res.done
theorem f100.eq (call dfr : CallF) (r0 : Value) (s1 : Value) (W0 : World) : aFun Tryz.prog call dfr Tryz.f100 f100.ann (ofArgs #[r0, s1]) W0 = f100 call r0 s1 W0 := by kernel_rfl

/-- (dailies/timecode.rate).perTen -/
def f106.ann : Ann := (.s .z (.s .z .z))
noncomputable def f106 (call : CallF) (x0 : Value) (W0 : World) : Option (Value × World) :=
  ((erun Tryz.prog (Instr.box 145 x0) W0).bind fun r1 =>
  (prun Tryz.prog (Instr.fieldAt 145 r1.1 0)).bind fun v3 =>
  (rrun Tryz.prog (Instr.loadAt 3 v3) r1.2).bind fun v4 =>
  (bin .mul (Value.int IntKind.i64 600) v4).bind fun v5 =>
  (prun Tryz.prog (Instr.fieldAt 145 r1.1 3)).bind fun v6 =>
  (rrun Tryz.prog (Instr.loadAt 3 v6) r1.2).bind fun v7 =>
  (bin .mul (Value.int IntKind.i64 9) v7).bind fun v8 =>
  (bin .sub v5 v8).bind fun v9 =>
  some (Res.ret [v9] r1.2)).bind Res.done
theorem f106.eq (call dfr : CallF) (x0 : Value) (W0 : World) : aFun Tryz.prog call dfr Tryz.f106 f106.ann (ofArgs #[x0]) W0 = f106 call x0 W0 := by kernel_rfl

/-- unicode/utf8.appendRuneNonASCII -/
def f109.ann : Ann := (.s .z (.s .z (.b [4] (.s .z (.c (.s .z .z) (.s (.s .z (.j [0, 1, 5, 25] .z .z)) (.c (.s .z .z) (.s .z (.c (.s .z .z) (.s .z .z))))))))))
noncomputable def f109 (call : CallF) (p0 : Value) (r1 : Value) (W0 : World) : Option (Value × World) :=
  ((prun Tryz.prog (convert 21 190 r1)).bind fun v7 =>
  ((bin .leq v7 (Value.int IntKind.u32 2047)).bind fun v13 =>
  (asB v13).bind fun c11 =>
  if c11 then
    (prun Tryz.prog (do eqGuard .shr 21 (Operand.tmp 15) (Operand.const (Value.int IntKind.u64 6)) r1 (Value.int IntKind.u64 6); binOp .shr 21 r1 (Value.int IntKind.u64 6))).bind fun v16 =>
    (prun Tryz.prog (convert 21 5 v16)).bind fun v17 =>
    (prun Tryz.prog (do eqGuard .or 5 (Operand.const (Value.int IntKind.u8 192)) (Operand.tmp 17) (Value.int IntKind.u8 192) v17; binOp .or 5 (Value.int IntKind.u8 192) v17)).bind fun v18 =>
    (prun Tryz.prog (convert 21 5 r1)).bind fun v20 =>
    (prun Tryz.prog (do eqGuard .and 5 (Operand.tmp 20) (Operand.const (Value.int IntKind.u8 63)) v20 (Value.int IntKind.u8 63); binOp .and 5 v20 (Value.int IntKind.u8 63))).bind fun v21 =>
    (prun Tryz.prog (do eqGuard .or 5 (Operand.const (Value.int IntKind.u8 128)) (Operand.tmp 21) (Value.int IntKind.u8 128) v21; binOp .or 5 (Value.int IntKind.u8 128) v21)).bind fun v22 =>
    (erun Tryz.prog (Instr.buildSlice 160 2 #[(0, v18), (1, v22)]) W0).bind fun r23 =>
    (erun Tryz.prog (Builtin.append_ #[160, 160] 160 #[p0, r23.1]) r23.2).bind fun r24 =>
    some (Res.ret [r24.1] r24.2)
  else
  (bin .lss v7 (Value.int IntKind.u32 55296)).bind fun v27 =>
  (asB v27).bind fun c25 =>
  (if c25 then
    some (Res.norm [p0, r1, v7, v27] W0)
   else
    (bin .lss (Value.int IntKind.u32 57343) v7).bind fun v29 =>
    (asB v29).bind fun b30 =>
    (if b30 = true then (bin .leq v7 (Value.int IntKind.u32 65535)).bind fun v32 =>
      some (v32, W0)
     else some ((Value.bool false), W0)).bind fun r33 =>
    some (Res.norm [p0, r1, v7, r33.1] r33.2)).bind fun (r : Res) => r.cont fun vs W1 =>
  let p0_1 := nth vs 0
  let r1_1 := nth vs 1
  let i5 := nth vs 2
  let v25 := nth vs 3
  (asB v25).bind fun c25_1 =>
  if c25_1 then
    (prun Tryz.prog (do eqGuard .shr 21 (Operand.tmp 35) (Operand.const (Value.int IntKind.u64 12)) r1_1 (Value.int IntKind.u64 12); binOp .shr 21 r1_1 (Value.int IntKind.u64 12))).bind fun v36 =>
    (prun Tryz.prog (convert 21 5 v36)).bind fun v37 =>
    (prun Tryz.prog (do eqGuard .or 5 (Operand.const (Value.int IntKind.u8 224)) (Operand.tmp 37) (Value.int IntKind.u8 224) v37; binOp .or 5 (Value.int IntKind.u8 224) v37)).bind fun v38 =>
    (prun Tryz.prog (do eqGuard .shr 21 (Operand.tmp 39) (Operand.const (Value.int IntKind.u64 6)) r1_1 (Value.int IntKind.u64 6); binOp .shr 21 r1_1 (Value.int IntKind.u64 6))).bind fun v40 =>
    (prun Tryz.prog (convert 21 5 v40)).bind fun v41 =>
    (prun Tryz.prog (do eqGuard .and 5 (Operand.tmp 41) (Operand.const (Value.int IntKind.u8 63)) v41 (Value.int IntKind.u8 63); binOp .and 5 v41 (Value.int IntKind.u8 63))).bind fun v42 =>
    (prun Tryz.prog (do eqGuard .or 5 (Operand.const (Value.int IntKind.u8 128)) (Operand.tmp 42) (Value.int IntKind.u8 128) v42; binOp .or 5 (Value.int IntKind.u8 128) v42)).bind fun v43 =>
    (prun Tryz.prog (convert 21 5 r1_1)).bind fun v45 =>
    (prun Tryz.prog (do eqGuard .and 5 (Operand.tmp 45) (Operand.const (Value.int IntKind.u8 63)) v45 (Value.int IntKind.u8 63); binOp .and 5 v45 (Value.int IntKind.u8 63))).bind fun v46 =>
    (prun Tryz.prog (do eqGuard .or 5 (Operand.const (Value.int IntKind.u8 128)) (Operand.tmp 46) (Value.int IntKind.u8 128) v46; binOp .or 5 (Value.int IntKind.u8 128) v46)).bind fun v47 =>
    (erun Tryz.prog (Instr.buildSlice 160 3 #[(0, v38), (1, v43), (2, v47)]) W1).bind fun r48 =>
    (erun Tryz.prog (Builtin.append_ #[160, 160] 160 #[p0_1, r48.1]) r48.2).bind fun r49 =>
    some (Res.ret [r49.1] r49.2)
  else
  (bin .gtr i5 (Value.int IntKind.u32 65535)).bind fun v52 =>
  (asB v52).bind fun b53 =>
  (if b53 = true then (bin .leq i5 (Value.int IntKind.u32 1114111)).bind fun v55 =>
    some (v55, W1)
   else some ((Value.bool false), W1)).bind fun r56 =>
  (asB r56.1).bind fun c50 =>
  if c50 then
    (prun Tryz.prog (do eqGuard .shr 21 (Operand.tmp 58) (Operand.const (Value.int IntKind.u64 18)) r1_1 (Value.int IntKind.u64 18); binOp .shr 21 r1_1 (Value.int IntKind.u64 18))).bind fun v59 =>
    (prun Tryz.prog (convert 21 5 v59)).bind fun v60 =>
    (prun Tryz.prog (do eqGuard .or 5 (Operand.const (Value.int IntKind.u8 240)) (Operand.tmp 60) (Value.int IntKind.u8 240) v60; binOp .or 5 (Value.int IntKind.u8 240) v60)).bind fun v61 =>
    (prun Tryz.prog (do eqGuard .shr 21 (Operand.tmp 62) (Operand.const (Value.int IntKind.u64 12)) r1_1 (Value.int IntKind.u64 12); binOp .shr 21 r1_1 (Value.int IntKind.u64 12))).bind fun v63 =>
    (prun Tryz.prog (convert 21 5 v63)).bind fun v64 =>
    (prun Tryz.prog (do eqGuard .and 5 (Operand.tmp 64) (Operand.const (Value.int IntKind.u8 63)) v64 (Value.int IntKind.u8 63); binOp .and 5 v64 (Value.int IntKind.u8 63))).bind fun v65 =>
    (prun Tryz.prog (do eqGuard .or 5 (Operand.const (Value.int IntKind.u8 128)) (Operand.tmp 65) (Value.int IntKind.u8 128) v65; binOp .or 5 (Value.int IntKind.u8 128) v65)).bind fun v66 =>
    (prun Tryz.prog (do eqGuard .shr 21 (Operand.tmp 67) (Operand.const (Value.int IntKind.u64 6)) r1_1 (Value.int IntKind.u64 6); binOp .shr 21 r1_1 (Value.int IntKind.u64 6))).bind fun v68 =>
    (prun Tryz.prog (convert 21 5 v68)).bind fun v69 =>
    (prun Tryz.prog (do eqGuard .and 5 (Operand.tmp 69) (Operand.const (Value.int IntKind.u8 63)) v69 (Value.int IntKind.u8 63); binOp .and 5 v69 (Value.int IntKind.u8 63))).bind fun v70 =>
    (prun Tryz.prog (do eqGuard .or 5 (Operand.const (Value.int IntKind.u8 128)) (Operand.tmp 70) (Value.int IntKind.u8 128) v70; binOp .or 5 (Value.int IntKind.u8 128) v70)).bind fun v71 =>
    (prun Tryz.prog (convert 21 5 r1_1)).bind fun v73 =>
    (prun Tryz.prog (do eqGuard .and 5 (Operand.tmp 73) (Operand.const (Value.int IntKind.u8 63)) v73 (Value.int IntKind.u8 63); binOp .and 5 v73 (Value.int IntKind.u8 63))).bind fun v74 =>
    (prun Tryz.prog (do eqGuard .or 5 (Operand.const (Value.int IntKind.u8 128)) (Operand.tmp 74) (Value.int IntKind.u8 128) v74; binOp .or 5 (Value.int IntKind.u8 128) v74)).bind fun v75 =>
    (erun Tryz.prog (Instr.buildSlice 160 4 #[(0, v61), (1, v66), (2, v71), (3, v75)]) r56.2).bind fun r76 =>
    (erun Tryz.prog (Builtin.append_ #[160, 160] 160 #[p0_1, r76.1]) r76.2).bind fun r77 =>
    some (Res.ret [r77.1] r77.2)
  else
  (erun Tryz.prog (Instr.buildSlice 160 3 #[(0, (Value.int IntKind.u8 239)), (1, (Value.int IntKind.u8 191)), (2, (Value.int IntKind.u8 189))]) r56.2).bind fun r9 =>
  (erun Tryz.prog (Builtin.append_ #[160, 160] 160 #[p0_1, r9.1]) r9.2).bind fun r10 =>
  some (Res.ret [r10.1] r10.2)).bind fun (r : Res) => (r.unblock 0).cont fun vs_1 W2 =>
  let v4 := nth vs_1 0
  some (Res.norm [v4] W2)).bind Res.done
theorem f109.eq (call dfr : CallF) (p0 : Value) (r1 : Value) (W0 : World) : aFun Tryz.prog call dfr Tryz.f109 f109.ann (ofArgs #[p0, r1]) W0 = f109 call p0 r1 W0 := by kernel_rfl

/-- dailies/timecode.of -/
def f110.ann : Ann := (.s .z (.s .z (.s (.b [4, 6] (.s .z (.c (.s .z .z) (.s .z (.c (.s .z .z) .z))))) (.s .z .z))))
noncomputable def f110 (call : CallF) (r0 : Value) (n1 : Value) (W0 : World) : Option (Value × World) :=
  ((erun Tryz.prog (Instr.alloc 145 true (.tuple #[])) W0).bind fun r4 =>
  (call 80 #[r0] r4.2).bind fun r10 =>
  (prun Tryz.prog (Instr.extract r10.1 0)).bind fun v11 =>
  (prun Tryz.prog (Instr.extract r10.1 1)).bind fun v12 =>
  (erun Tryz.prog (Instr.alloc 145 true (.tuple #[])) r10.2).bind fun r6 =>
  (erun Tryz.prog (Instr.storeAt 145 r6.1 v11) r6.2).bind fun r =>
  ((prun Tryz.prog (Op.unary .not v12)).bind fun v15 =>
  (asB v15).bind fun c13 =>
  if c13 then
    (prun Tryz.prog (Instr.build 145 #[])).bind fun v16 =>
    (erun Tryz.prog (Instr.storeAt 145 r4.1 v16) r.2).bind fun r_1 =>
    some (Res.ret [r4.1, (Value.int IntKind.i64 181)] r_1.2)
  else
  (bin .lss n1 (Value.int IntKind.i64 0)).bind fun v19 =>
  (asB v19).bind fun b20 =>
  (if b20 = false then (rrun Tryz.prog (Instr.loadAt 145 r6.1) r.2).bind fun v22 =>
    (call 81 #[v22] r.2).bind fun r23 =>
    (bin .geq n1 r23.1).bind fun v24 =>
    some (v24, r23.2)
   else some ((Value.bool true), r.2)).bind fun r25 =>
  (asB r25.1).bind fun c17 =>
  if c17 then
    (prun Tryz.prog (Instr.build 145 #[])).bind fun v26 =>
    (erun Tryz.prog (Instr.storeAt 145 r4.1 v26) r25.2).bind fun r_2 =>
    some (Res.ret [r4.1, (Value.int IntKind.i64 184)] r_2.2)
  else
  some (Res.norm [r4.1, r6.1] r25.2)).bind fun (r : Res) => (r.unblock 0).cont fun vs W1 =>
  let v4 := nth vs 0
  let x6 := nth vs 1
  (rrun Tryz.prog (Instr.loadAt 145 x6) W1).bind fun v27 =>
  (erun Tryz.prog (Instr.storeAt 145 v4 v27) W1).bind fun r_3 =>
  some (Res.ret [v4, (Value.int IntKind.i64 0)] r_3.2)).bind (Res.doneR Tryz.prog [.cell 4 145, .tmp 5])
theorem f110.eq (call dfr : CallF) (r0 : Value) (n1 : Value) (W0 : World) : aFun Tryz.prog call dfr Tryz.f110 f110.ann (ofArgs #[r0, n1]) W0 = f110 call r0 n1 W0 := by kernel_rfl

/-- (dailies/timecode.rate).dropped -/
def f111.ann : Ann := (.s .z (.s .z (.s .z (.s (.s .z (.s .z (.j [2, 7] .z .z))) (.s .z .z)))))
noncomputable def f111 (call : CallF) (x0 : Value) (n1 : Value) (W0 : World) : Option (Value × World) :=
  ((erun Tryz.prog (Instr.box 145 x0) W0).bind fun r2 =>
  ((rrun Tryz.prog (Instr.loadAt 145 r2.1) r2.2.drew).bind fun v10 =>
  some (v10, r2.2.drew)).bind fun r10 =>
  ((call 106 #[r10.1] r10.2).bind fun r11_1 =>
  some (r11_1.1, r11_1.2)).bind fun r11 =>
  ((bin .quo n1 r11.1).bind fun v12 =>
  some (v12, r11.2)).bind fun r12 =>
  ((rrun Tryz.prog (Instr.loadAt 145 r2.1) r12.2).bind fun v14 =>
  some (v14, r12.2)).bind fun r14 =>
  ((call 106 #[r14.1] r14.2).bind fun r15_1 =>
  some (r15_1.1, r15_1.2)).bind fun r15 =>
  ((bin .rem n1 r15.1).bind fun v16 =>
  some (v16, r15.2)).bind fun r16 =>
  chkThen ((((rrun Tryz.prog (Instr.loadAt 145 r2.1) r10.2).bind fun v14_1 => some v14_1) = some r14.1 ∧ ((rrun Tryz.prog (Instr.loadAt 145 r2.1) r11.2).bind fun v14_2 => some v14_2) = some r14.1) ∧ True)
  ((bin .mul (Value.int IntKind.i64 9) r12.1).bind fun v18 =>
  (prun Tryz.prog (Instr.fieldAt 145 r2.1 0)).bind fun v19 =>
  (rrun Tryz.prog (Instr.loadAt 3 v19) r16.2).bind fun v20 =>
  (bin .mul (Value.int IntKind.i64 60) v20).bind fun v21 =>
  (bin .geq r16.1 v21).bind fun v24 =>
  (asB v24).bind fun c24 =>
  (if c24 then
    (bin .sub r16.1 v21).bind fun v28 =>
    (rrun Tryz.prog (Instr.loadAt 145 r2.1) r16.2).bind fun v29 =>
    (call 127 #[v29] r16.2).bind fun r30 =>
    (bin .quo v28 r30.1).bind fun v31 =>
    (bin .add (Value.int IntKind.i64 1) v31).bind fun v32 =>
    (bin .add v18 v32).bind fun v33 =>
    some (Res.norm [r2.1, v33] r30.2)
   else
    some (Res.norm [r2.1, v18] r16.2)).bind fun (r : Res) => r.cont fun vs W1 =>
  let x2 := nth vs 0
  let minutes7 := nth vs 1
  (prun Tryz.prog (Instr.fieldAt 145 x2 3)).bind fun v35 =>
  (rrun Tryz.prog (Instr.loadAt 3 v35) W1).bind fun v36 =>
  (bin .mul minutes7 v36).bind fun v37 =>
  some (Res.ret [v37] W1))).bind Res.done
theorem f111.eq (call dfr : CallF) (x0 : Value) (n1 : Value) (W0 : World) : aFun Tryz.prog call dfr Tryz.f111 f111.ann (ofArgs #[x0, n1]) W0 = f111 call x0 n1 W0 := by kernel_rfl

/-- dailies/timecode.two -/
def f112.ann : Ann := (.s .z (.s .z .z))
noncomputable def f112 (call : CallF) (b0 : Value) (n1 : Value) (W0 : World) : Option (Value × World) :=
  ((bin .quo n1 (Value.int IntKind.i64 10)).bind fun v7 =>
  (bin .add (Value.int IntKind.i64 48) v7).bind fun v8 =>
  (prun Tryz.prog (convert 3 5 v8)).bind fun v9 =>
  (bin .rem n1 (Value.int IntKind.i64 10)).bind fun v11 =>
  (bin .add (Value.int IntKind.i64 48) v11).bind fun v12 =>
  (prun Tryz.prog (convert 3 5 v12)).bind fun v13 =>
  (erun Tryz.prog (Instr.buildSlice 160 2 #[(0, v9), (1, v13)]) W0).bind fun r14 =>
  (erun Tryz.prog (Builtin.append_ #[160, 160] 160 #[b0, r14.1]) r14.2).bind fun r15 =>
  some (Res.ret [r15.1] r15.2)).bind Res.done
theorem f112.eq (call dfr : CallF) (b0 : Value) (n1 : Value) (W0 : World) : aFun Tryz.prog call dfr Tryz.f112 f112.ann (ofArgs #[b0, n1]) W0 = f112 call b0 n1 W0 := by kernel_rfl

/-- (dailies/timecode.rate).mark -/
def f113.ann : Ann := (.s .z (.s (.s .z (.c (.s .z .z) .z)) (.s .z .z)))
noncomputable def f113 (call : CallF) (x0 : Value) (W0 : World) : Option (Value × World) :=
  ((erun Tryz.prog (Instr.box 145 x0) W0).bind fun r1 =>
  (prun Tryz.prog (Instr.fieldAt 145 r1.1 3)).bind fun v3 =>
  (rrun Tryz.prog (Instr.loadAt 3 v3) r1.2).bind fun v4 =>
  (bin .gtr v4 (Value.int IntKind.i64 0)).bind fun v5 =>
  (asB v5).bind fun c5 =>
  if c5 then
    some (Res.ret [(Value.int IntKind.u8 59)] r1.2)
  else
  some (Res.ret [(Value.int IntKind.u8 58)] r1.2)).bind Res.done
theorem f113.eq (call dfr : CallF) (x0 : Value) (W0 : World) : aFun Tryz.prog call dfr Tryz.f113 f113.ann (ofArgs #[x0]) W0 = f113 call x0 W0 := by kernel_rfl

/-- unicode/utf8.ValidRune -/
def f115.ann : Ann := (.s .z (.s (.b [] (.s .z (.c (.s .z .z) (.s .z (.c (.s .z .z) .z))))) (.s .z .z)))
noncomputable def f115 (call : CallF) (r0 : Value) (W0 : World) : Option (Value × World) :=
  (((bin .leq (Value.int IntKind.i32 0) r0).bind fun v5 =>
  (asB v5).bind fun b6 =>
  (if b6 = true then (bin .lss r0 (Value.int IntKind.i32 55296)).bind fun v8 =>
    some (v8, W0)
   else some ((Value.bool false), W0)).bind fun r9 =>
  (asB r9.1).bind fun c3 =>
  if c3 then
    some (Res.ret [(Value.bool true)] r9.2)
  else
  (bin .lss (Value.int IntKind.i32 57343) r0).bind fun v12 =>
  (asB v12).bind fun b13 =>
  (if b13 = true then (bin .leq r0 (Value.int IntKind.i32 1114111)).bind fun v15 =>
    some (v15, r9.2)
   else some ((Value.bool false), r9.2)).bind fun r16 =>
  (asB r16.1).bind fun c10 =>
  if c10 then
    some (Res.ret [(Value.bool true)] r16.2)
  else
  some (Res.norm [] r16.2)).bind fun (r : Res) => (r.unblock 0).cont fun vs W1 =>
  some (Res.ret [(Value.bool false)] W1)).bind Res.done
theorem f115.eq (call dfr : CallF) (r0 : Value) (W0 : World) : aFun Tryz.prog call dfr Tryz.f115 f115.ann (ofArgs #[r0]) W0 = f115 call r0 W0 := by kernel_rfl

/-- internal/strconv.ParseInt -/
def f118.ann : Ann := (.s .z (.s (.s .z (.c (.s .z .z) .z)) (.s .z (.s (.s .z (.b [0, 1, 2, 8] (.s .z (.c .z (.s .z (.c (.s .z .z) .z)))))) (.s .z (.s .z (.s (.s .z (.c (.s .z .z) .z)) (.s (.s .z (.j [2, 8, 9] .z .z)) (.s .z (.s (.s .z (.c (.s .z .z) .z)) (.s (.s .z (.c (.s .z .z) .z)) (.s .z (.s (.s .z (.j [11] .z .z)) (.s .z .z))))))))))))))
noncomputable def f118 (call : CallF) (s0 : Value) (base1 : Value) (bitSize2 : Value) (W0 : World) : Option (Value × World) :=
  ((prun Tryz.prog (do eqGuard .eql 9 (Operand.tmp 12) (Operand.const (Value.string { data := #[] })) s0 (Value.string { data := #[] }); binOp .eql 9 s0 (Value.string { data := #[] }))).bind fun v13 =>
  (asB v13).bind fun c13 =>
  if c13 then
    (prun Tryz.prog (Instr.makeInterface 198 (Value.int IntKind.i64 2))).bind fun v14 =>
    some (Res.ret [(Value.int IntKind.i64 0), v14] W0)
  else
  (prun Tryz.prog (Instr.index 9 s0 (Value.int IntKind.i64 0))).bind fun v16 =>
  ((bin .eql v16 (Value.int IntKind.u8 43)).bind fun v18 =>
  (asB v18).bind fun c17 =>
  if c17 then
    (prun Tryz.prog (Instr.sliceAt 9 s0 (some (Value.int IntKind.i64 1)) none none)).bind fun v20 =>
    some (Res.norm [v20, base1, bitSize2, (Value.bool false)] W0)
  else
  (bin .eql v16 (Value.int IntKind.u8 45)).bind fun v22 =>
  (asB v22).bind fun c21 =>
  if c21 then
    (prun Tryz.prog (Instr.sliceAt 9 s0 (some (Value.int IntKind.i64 1)) none none)).bind fun v24 =>
    some (Res.norm [v24, base1, bitSize2, (Value.bool true)] W0)
  else
  some (Res.norm [s0, base1, bitSize2, (Value.bool false)] W0)).bind fun (r : Res) => (r.unblock 0).cont fun vs W1 =>
  let s0_1 := nth vs 0
  let base1_1 := nth vs 1
  let bitSize2_1 := nth vs 2
  let neg8 := nth vs 3
  (call 129 #[s0_1, base1_1, bitSize2_1] W1).bind fun r29 =>
  (prun Tryz.prog (Instr.extract r29.1 0)).bind fun v30 =>
  (prun Tryz.prog (Instr.extract r29.1 1)).bind fun v31 =>
  (rrun Tryz.prog (do eqGuard .neq 32 (Operand.tmp 32) (Operand.const Value.nilIface) v31 Value.nilIface; binOp .neq 32 v31 Value.nilIface) r29.2).bind fun v33 =>
  (asB v33).bind fun b34 =>
  (if b34 = true then (prun Tryz.prog (Instr.makeInterface 198 (Value.int IntKind.i64 1))).bind fun v36 =>
    (rrun Tryz.prog (do eqGuard .neq 32 (Operand.tmp 35) (Operand.tmp 36) v31 v36; binOp .neq 32 v31 v36) r29.2).bind fun v37 =>
    some (v37, r29.2)
   else some ((Value.bool false), r29.2)).bind fun r38 =>
  (asB r38.1).bind fun c38 =>
  if c38 then
    some (Res.ret [(Value.int IntKind.i64 0), v31] r38.2)
  else
  (bin .eql bitSize2_1 (Value.int IntKind.i64 0)).bind fun v41 =>
  (asB v41).bind fun c41 =>
  (if c41 then
    some (Res.norm [(Value.int IntKind.i64 64), neg8, v30] r38.2)
   else
    some (Res.norm [bitSize2_1, neg8, v30] r38.2)).bind fun (r : Res) => r.cont fun vs_1 W2 =>
  let bitSize2_2 := nth vs_1 0
  let neg8_1 := nth vs_1 1
  let un9 := nth vs_1 2
  (bin .sub bitSize2_2 (Value.int IntKind.i64 1)).bind fun v43 =>
  (prun Tryz.prog (convert 3 154 v43)).bind fun v44 =>
  (prun Tryz.prog (do eqGuard .shl 159 (Operand.const (Value.int IntKind.u64 1)) (Operand.tmp 44) (Value.int IntKind.u64 1) v44; binOp .shl 159 (Value.int IntKind.u64 1) v44)).bind fun v45 =>
  (prun Tryz.prog (Op.unary .not neg8_1)).bind fun v47 =>
  (asB v47).bind fun b48 =>
  (if b48 = true then (bin .geq un9 v45).bind fun v51 =>
    some (v51, W2)
   else some ((Value.bool false), W2)).bind fun r52 =>
  (asB r52.1).bind fun c52 =>
  if c52 then
    (bin .sub v45 (Value.int IntKind.u64 1)).bind fun v54 =>
    (prun Tryz.prog (convert 159 2 v54)).bind fun v55 =>
    (prun Tryz.prog (Instr.makeInterface 198 (Value.int IntKind.i64 1))).bind fun v56 =>
    some (Res.ret [v55, v56] r52.2)
  else
  (asB neg8_1).bind fun b58 =>
  (if b58 = true then (bin .gtr un9 v45).bind fun v61 =>
    some (v61, r52.2)
   else some ((Value.bool false), r52.2)).bind fun r62 =>
  (asB r62.1).bind fun c62 =>
  if c62 then
    (prun Tryz.prog (convert 159 2 v45)).bind fun v64 =>
    (prun Tryz.prog (Op.unary .neg v64)).bind fun v65 =>
    (prun Tryz.prog (Instr.makeInterface 198 (Value.int IntKind.i64 1))).bind fun v66 =>
    some (Res.ret [v65, v66] r62.2)
  else
  (prun Tryz.prog (convert 159 2 un9)).bind fun v68 =>
  (asB neg8_1).bind fun c69 =>
  (if c69 then
    (prun Tryz.prog (Op.unary .neg v68)).bind fun v71 =>
    some (Res.norm [v71] r62.2)
   else
    some (Res.norm [v68] r62.2)).bind fun (r : Res) => r.cont fun vs_2 W3 =>
  let n11 := nth vs_2 0
  some (Res.ret [n11, Value.nilIface] W3)).bind Res.done
theorem f118.eq (call dfr : CallF) (s0 : Value) (base1 : Value) (bitSize2 : Value) (W0 : World) : aFun Tryz.prog call dfr Tryz.f118 f118.ann (ofArgs #[s0, base1, bitSize2]) W0 = f118 call s0 base1 bitSize2 W0 := by kernel_rfl

/-- strconv.syntaxError -/
def f119.ann : Ann := (.s .z (.s .z .z))
noncomputable def f119 (call : CallF) (fn0 : Value) (str1 : Value) (W0 : World) : Option (Value × World) :=
  (((call 130 #[str1] W0.drew).bind fun r7_1 =>
  some (r7_1.1, r7_1.2)).bind fun r7 =>
  ((rrun Tryz.prog (Instr.loadAt 32 (.pointer (some ⟨5, 0, none⟩))) r7.2).bind fun v8 =>
  some (v8, r7.2)).bind fun r8 =>
  ((prun Tryz.prog (Instr.build 211 #[(0, fn0), (1, r7.1), (2, r8.1)])).bind fun v9 =>
  some (v9, r8.2)).bind fun r9 =>
  ((erun Tryz.prog (Instr.box 211 r9.1) r9.2).bind fun r10_1 =>
  some (r10_1.1, r10_1.2)).bind fun r10 =>
  chkThen ((((rrun Tryz.prog (Instr.loadAt 32 (.pointer (some ⟨5, 0, none⟩))) W0.drew).bind fun v8_1 => some v8_1) = some r8.1 ∧ ((rrun Tryz.prog (Instr.loadAt 32 (.pointer (some ⟨5, 0, none⟩))) r7.2).bind fun v8_2 => some v8_2) = some r8.1) ∧ True)
  (some (Res.ret [r10.1] r10.2))).bind Res.done
theorem f119.eq (call dfr : CallF) (fn0 : Value) (str1 : Value) (W0 : World) : aFun Tryz.prog call dfr Tryz.f119 f119.ann (ofArgs #[fn0, str1]) W0 = f119 call fn0 str1 W0 := by kernel_rfl

/-- strconv.rangeError -/
def f120.ann : Ann := (.s .z (.s .z .z))
noncomputable def f120 (call : CallF) (fn0 : Value) (str1 : Value) (W0 : World) : Option (Value × World) :=
  (((call 130 #[str1] W0.drew).bind fun r7_1 =>
  some (r7_1.1, r7_1.2)).bind fun r7 =>
  ((rrun Tryz.prog (Instr.loadAt 32 (.pointer (some ⟨6, 0, none⟩))) r7.2).bind fun v8 =>
  some (v8, r7.2)).bind fun r8 =>
  ((prun Tryz.prog (Instr.build 211 #[(0, fn0), (1, r7.1), (2, r8.1)])).bind fun v9 =>
  some (v9, r8.2)).bind fun r9 =>
  ((erun Tryz.prog (Instr.box 211 r9.1) r9.2).bind fun r10_1 =>
  some (r10_1.1, r10_1.2)).bind fun r10 =>
  chkThen ((((rrun Tryz.prog (Instr.loadAt 32 (.pointer (some ⟨6, 0, none⟩))) W0.drew).bind fun v8_1 => some v8_1) = some r8.1 ∧ ((rrun Tryz.prog (Instr.loadAt 32 (.pointer (some ⟨6, 0, none⟩))) r7.2).bind fun v8_2 => some v8_2) = some r8.1) ∧ True)
  (some (Res.ret [r10.1] r10.2))).bind Res.done
theorem f120.eq (call dfr : CallF) (fn0 : Value) (str1 : Value) (W0 : World) : aFun Tryz.prog call dfr Tryz.f120 f120.ann (ofArgs #[fn0, str1]) W0 = f120 call fn0 str1 W0 := by kernel_rfl

/-- (dailies/timecode.rate).read -/
def f123.ann : Ann := (.s .z (.s (.s .z (.s .z (.c (.s .z .z) .z))) (.s .z (.s .z (.s (.b [2, 9, 10, 11, 12] (.s .z (.c (.s .z .z) (.s .z (.c (.s .z .z) (.s .z (.c (.s .z .z) (.s .z (.c (.s .z .z) (.s .z (.c (.s .z .z) .z))))))))))) (.s .z (.s .z .z)))))))
noncomputable def f123 (call : CallF) (x0 : Value) (s1 : Value) (W0 : World) : Option (Value × World) :=
  ((erun Tryz.prog (Instr.box 145 x0) W0).bind fun r2 =>
  (erun Tryz.prog (Instr.box 9 s1) r2.2).bind fun r3 =>
  (rrun Tryz.prog (Instr.loadAt 145 r2.1) r3.2).bind fun v14 =>
  (rrun Tryz.prog (Instr.loadAt 9 r3.1) r3.2).bind fun v15 =>
  (call 132 #[v14, v15] r3.2).bind fun r16 =>
  (bin .geq r16.1 (Value.int IntKind.i64 0)).bind fun v18 =>
  (asB v18).bind fun c18 =>
  if c18 then
    some (Res.ret [(Value.int IntKind.i64 0), r16.1, (Value.int IntKind.i64 182)] r16.2)
  else
  (callV call (.func (Fn.func 133) #[] #[r3.1]) [(Value.int IntKind.i64 0)] r16.2).bind fun r22 =>
  (callV call (.func (Fn.func 133) #[] #[r3.1]) [(Value.int IntKind.i64 3)] r22.2).bind fun r24 =>
  (callV call (.func (Fn.func 133) #[] #[r3.1]) [(Value.int IntKind.i64 6)] r24.2).bind fun r26 =>
  (callV call (.func (Fn.func 133) #[] #[r3.1]) [(Value.int IntKind.i64 9)] r26.2).bind fun r28 =>
  ((bin .gtr r22.1 (Value.int IntKind.i64 23)).bind fun v31 =>
  (asB v31).bind fun c29 =>
  if c29 then
    some (Res.ret [(Value.int IntKind.i64 0), (Value.int IntKind.i64 0), (Value.int IntKind.i64 184)] r28.2)
  else
  (bin .gtr r24.1 (Value.int IntKind.i64 59)).bind fun v34 =>
  (asB v34).bind fun c32 =>
  if c32 then
    some (Res.ret [(Value.int IntKind.i64 0), (Value.int IntKind.i64 3), (Value.int IntKind.i64 182)] r28.2)
  else
  (bin .gtr r26.1 (Value.int IntKind.i64 59)).bind fun v37 =>
  (asB v37).bind fun c35 =>
  if c35 then
    some (Res.ret [(Value.int IntKind.i64 0), (Value.int IntKind.i64 6), (Value.int IntKind.i64 182)] r28.2)
  else
  (prun Tryz.prog (Instr.fieldAt 145 r2.1 0)).bind fun v40 =>
  (rrun Tryz.prog (Instr.loadAt 3 v40) r28.2).bind fun v41 =>
  (bin .geq r28.1 v41).bind fun v42 =>
  (asB v42).bind fun c38 =>
  if c38 then
    some (Res.ret [(Value.int IntKind.i64 0), (Value.int IntKind.i64 9), (Value.int IntKind.i64 182)] r28.2)
  else
  (bin .rem r24.1 (Value.int IntKind.i64 10)).bind fun v45 =>
  (bin .neq v45 (Value.int IntKind.i64 0)).bind fun v46 =>
  (asB v46).bind fun b47 =>
  (if b47 = true then (bin .eql r26.1 (Value.int IntKind.i64 0)).bind fun v49 =>
    some (v49, r28.2)
   else some ((Value.bool false), r28.2)).bind fun r50 =>
  (asB r50.1).bind fun b51 =>
  (if b51 = true then (prun Tryz.prog (Instr.fieldAt 145 r2.1 3)).bind fun v53 =>
    (rrun Tryz.prog (Instr.loadAt 3 v53) r50.2).bind fun v54 =>
    (bin .lss r28.1 v54).bind fun v55 =>
    some (v55, r50.2)
   else some ((Value.bool false), r50.2)).bind fun r56 =>
  (asB r56.1).bind fun c43 =>
  if c43 then
    some (Res.ret [(Value.int IntKind.i64 0), (Value.int IntKind.i64 9), (Value.int IntKind.i64 183)] r56.2)
  else
  some (Res.norm [r2.1, r22.1, r24.1, r26.1, r28.1] r56.2)).bind fun (r : Res) => (r.unblock 0).cont fun vs W1 =>
  let x2 := nth vs 0
  let hour9 := nth vs 1
  let minute10 := nth vs 2
  let sec11 := nth vs 3
  let frame12 := nth vs 4
  (bin .mul (Value.int IntKind.i64 60) hour9).bind fun v58 =>
  (bin .add v58 minute10).bind fun v60 =>
  (prun Tryz.prog (Instr.fieldAt 145 x2 0)).bind fun v61 =>
  (rrun Tryz.prog (Instr.loadAt 3 v61) W1).bind fun v62 =>
  (bin .mul (Value.int IntKind.i64 60) v60).bind fun v64 =>
  (bin .add v64 sec11).bind fun v66 =>
  (bin .mul v62 v66).bind fun v67 =>
  (bin .add v67 frame12).bind fun v69 =>
  (prun Tryz.prog (Instr.fieldAt 145 x2 3)).bind fun v70 =>
  (rrun Tryz.prog (Instr.loadAt 3 v70) W1).bind fun v71 =>
  (bin .quo v60 (Value.int IntKind.i64 10)).bind fun v74 =>
  (bin .sub v60 v74).bind fun v75 =>
  (bin .mul v71 v75).bind fun v76 =>
  (bin .sub v69 v76).bind fun v77 =>
  some (Res.ret [v77, (Value.int IntKind.i64 0), (Value.int IntKind.i64 0)] W1)).bind Res.done
theorem f123.eq (call dfr : CallF) (x0 : Value) (s1 : Value) (W0 : World) : aFun Tryz.prog call dfr Tryz.f123 f123.ann (ofArgs #[x0, s1]) W0 = f123 call x0 s1 W0 := by kernel_rfl

/-- (dailies/timecode.rate).perMinute -/
def f127.ann : Ann := (.s .z (.s .z .z))
noncomputable def f127 (call : CallF) (x0 : Value) (W0 : World) : Option (Value × World) :=
  ((erun Tryz.prog (Instr.box 145 x0) W0).bind fun r1 =>
  (prun Tryz.prog (Instr.fieldAt 145 r1.1 0)).bind fun v3 =>
  (rrun Tryz.prog (Instr.loadAt 3 v3) r1.2).bind fun v4 =>
  (bin .mul (Value.int IntKind.i64 60) v4).bind fun v5 =>
  (prun Tryz.prog (Instr.fieldAt 145 r1.1 3)).bind fun v6 =>
  (rrun Tryz.prog (Instr.loadAt 3 v6) r1.2).bind fun v7 =>
  (bin .sub v5 v7).bind fun v8 =>
  some (Res.ret [v8] r1.2)).bind Res.done
theorem f127.eq (call dfr : CallF) (x0 : Value) (W0 : World) : aFun Tryz.prog call dfr Tryz.f127 f127.ann (ofArgs #[x0]) W0 = f127 call x0 W0 := by kernel_rfl

/-- internal/strconv.ParseUint -/
def f129.ann : Ann := (.s .z (.s (.s .z (.c (.s .z .z) .z)) (.s .z (.s .z (.s (.b [0, 1, 2, 8, 9] (.s .z (.c .z (.s .z (.c (.s .z (.s .z (.c (.b [0, 1, 2, 8, 9] (.s .z (.c (.s .z .z) (.s .z (.c (.s .z .z) (.s .z (.c (.s .z .z) (.s .z .z)))))))) .z))) (.s .z .z)))))) (.s (.s .z (.j [0, 1, 2, 8, 9] .z (.s .z (.c (.s .z .z) .z)))) (.s .z (.s (.s .z (.b [0, 1, 2, 8, 9, 10] (.s .z (.c .z (.s .z (.c .z .z)))))) (.s .z (.s .z (.s .z (.s (.s .z (.b [9, 12, 13] (.l [1, 8, 9, 10, 11, 12, 13, 99, 100, 101] (.s .z (.s (.c .z .z) (.s (.b [1, 8, 9, 10, 11, 12, 13, 99, 100, 101] (.s .z (.s .z (.s (.b [1, 8, 9, 10, 11, 12, 13, 16, 99, 100, 101] (.s .z (.c (.s .z .z) (.s .z (.c .z (.s .z (.c .z (.s .z .z)))))))) (.s (.s .z (.c (.s .z .z) .z)) (.s (.s .z (.c (.s .z .z) .z)) (.s .z (.s .z (.s (.s .z (.c (.s .z .z) .z)) .z))))))))) .z)))))) (.s (.s .z (.c (.s .z .z) .z)) (.s .z .z))))))))))))))
noncomputable def f129.l0 (call : CallF) (vs_4 : List Value) (W5 : World) : Option Res :=
  let o1_5 := nth vs_4 0
  let v8_4 := nth vs_4 1
  let v9_4 := nth vs_4 2
  let v10_1 := nth vs_4 3
  let v11 := nth vs_4 4
  let v12 := nth vs_4 5
  let v13 := nth vs_4 6
  let v99 := nth vs_4 7
  let v100_1 := nth vs_4 8
  let v101 := nth vs_4 9
  (bin .lss v101 v100_1).bind fun v102 =>
  (asB v102).bind fun c102 =>
  if c102 then
    ((prun Tryz.prog (Instr.indexAt 160 v99 v101)).bind fun v103 =>
    (rrun Tryz.prog (Instr.loadAt 5 v103) W5).bind fun v104 =>
    ((bin .eql v104 (Value.int IntKind.u8 95)).bind fun v108 =>
    (asB v108).bind fun b109 =>
    (if b109 = true then some (v8_4, W5)
     else some ((Value.bool false), W5)).bind fun r111 =>
    (asB r111.1).bind fun c106 =>
    if c106 then
      some (Res.exit 4 [o1_5, v8_4, v9_4, v10_1, v11, (Value.bool true), v13, v99, v100_1, v101] r111.2)
    else
    (bin .leq (Value.int IntKind.u8 48) v104).bind fun v114 =>
    (asB v114).bind fun b115 =>
    (if b115 = true then (bin .leq v104 (Value.int IntKind.u8 57)).bind fun v117 =>
      some (v117, r111.2)
     else some ((Value.bool false), r111.2)).bind fun r118 =>
    (asB r118.1).bind fun c112 =>
    if c112 then
      (bin .sub v104 (Value.int IntKind.u8 48)).bind fun v120 =>
      some (Res.norm [o1_5, v8_4, v9_4, v10_1, v11, v12, v13, v120, v99, v100_1, v101] r118.2)
    else
    (call 138 #[v104] r118.2).bind fun r123 =>
    (bin .leq (Value.int IntKind.u8 97) r123.1).bind fun v124 =>
    (asB v124).bind fun b125 =>
    (if b125 = true then (call 138 #[v104] r123.2).bind fun r127 =>
      (bin .leq r127.1 (Value.int IntKind.u8 122)).bind fun v128 =>
      some (v128, r127.2)
     else some ((Value.bool false), r123.2)).bind fun r129 =>
    (asB r129.1).bind fun c121 =>
    if c121 then
      (call 138 #[v104] r129.2).bind fun r131 =>
      (bin .sub r131.1 (Value.int IntKind.u8 97)).bind fun v132 =>
      (bin .add v132 (Value.int IntKind.u8 10)).bind fun v133 =>
      some (Res.norm [o1_5, v8_4, v9_4, v10_1, v11, v12, v13, v133, v99, v100_1, v101] r131.2)
    else
    (prun Tryz.prog (Instr.makeInterface 198 (Value.int IntKind.i64 2))).bind fun v105 =>
    some (Res.ret [(Value.int IntKind.u64 0), v105] r129.2)).bind fun (r : Res) => (r.unblock 5).cont fun vs_5 W6 =>
    let o1_6 := nth vs_5 0
    let v8_5 := nth vs_5 1
    let v9_5 := nth vs_5 2
    let v10_2 := nth vs_5 3
    let v11_1 := nth vs_5 4
    let v12_1 := nth vs_5 5
    let v13_1 := nth vs_5 6
    let v16 := nth vs_5 7
    let v99_1 := nth vs_5 8
    let v100_2 := nth vs_5 9
    let v101_1 := nth vs_5 10
    (prun Tryz.prog (convert 3 5 o1_6)).bind fun v136 =>
    (bin .geq v16 v136).bind fun v137 =>
    (asB v137).bind fun c137 =>
    if c137 then
      (prun Tryz.prog (Instr.makeInterface 198 (Value.int IntKind.i64 2))).bind fun v138 =>
      some (Res.ret [(Value.int IntKind.u64 0), v138] W6)
    else
    (bin .geq v13_1 v10_2).bind fun v141 =>
    (asB v141).bind fun c141 =>
    if c141 then
      (prun Tryz.prog (Instr.makeInterface 198 (Value.int IntKind.i64 1))).bind fun v143 =>
      some (Res.ret [v11_1, v143] W6)
    else
    (prun Tryz.prog (convert 3 159 o1_6)).bind fun v146 =>
    (bin .mul v13_1 v146).bind fun v147 =>
    (prun Tryz.prog (convert 5 159 v16)).bind fun v150 =>
    (bin .add v147 v150).bind fun v151 =>
    (bin .lss v151 v147).bind fun v154 =>
    (asB v154).bind fun b155 =>
    (if b155 = false then (bin .gtr v151 v11_1).bind fun v158 =>
      some (v158, W6)
     else some ((Value.bool true), W6)).bind fun r159 =>
    (asB r159.1).bind fun c159 =>
    if c159 then
      (prun Tryz.prog (Instr.makeInterface 198 (Value.int IntKind.i64 1))).bind fun v161 =>
      some (Res.ret [v11_1, v161] r159.2)
    else
    some (Res.norm [o1_6, v8_5, v9_5, v10_2, v11_1, v12_1, v151, v99_1, v100_2, v101_1] r159.2)).bind fun (r : Res) => (r.unblock 4).cont fun vs_6 W7 =>
    let o1_7 := nth vs_6 0
    let v8_6 := nth vs_6 1
    let v9_6 := nth vs_6 2
    let v10_3 := nth vs_6 3
    let v11_2 := nth vs_6 4
    let v12_2 := nth vs_6 5
    let v13_2 := nth vs_6 6
    let v99_2 := nth vs_6 7
    let v100_3 := nth vs_6 8
    let v101_2 := nth vs_6 9
    (bin .add v101_2 (Value.int IntKind.i64 1)).bind fun v163 =>
    some (Res.norm [o1_7, v8_6, v9_6, v10_3, v11_2, v12_2, v13_2, v99_2, v100_3, v163] W7)
  else
  some (Res.exit 3 [v9_4, v12, v13] W5)
noncomputable def f129 (call : CallF) (t0 : Value) (o1 : Value) (A2 : Value) (W0 : World) : Option (Value × World) :=
  ((prun Tryz.prog (do eqGuard .eql 9 (Operand.tmp 18) (Operand.const (Value.string { data := #[] })) t0 (Value.string { data := #[] }); binOp .eql 9 t0 (Value.string { data := #[] }))).bind fun v19 =>
  (asB v19).bind fun c19 =>
  if c19 then
    (prun Tryz.prog (Instr.makeInterface 198 (Value.int IntKind.i64 2))).bind fun v20 =>
    some (Res.ret [(Value.int IntKind.u64 0), v20] W0)
  else
  (bin .eql o1 (Value.int IntKind.i64 0)).bind fun v22 =>
  ((bin .leq (Value.int IntKind.i64 2) o1).bind fun v27 =>
  (asB v27).bind fun b28 =>
  (if b28 = true then (bin .leq o1 (Value.int IntKind.i64 36)).bind fun v30 =>
    some (v30, W0)
   else some ((Value.bool false), W0)).bind fun r31 =>
  (asB r31.1).bind fun c25 =>
  if c25 then
    some (Res.norm [t0, o1, A2, v22, t0] r31.2)
  else
  (bin .eql o1 (Value.int IntKind.i64 0)).bind fun v34 =>
  (asB v34).bind fun c32 =>
  if c32 then
    (prun Tryz.prog (Instr.index 9 t0 (Value.int IntKind.i64 0))).bind fun v36 =>
    (bin .eql v36 (Value.int IntKind.u8 48)).bind fun v37 =>
    (asB v37).bind fun c37 =>
    if c37 then
      ((prun Tryz.prog (Builtin.len_ #[9] 3 #[t0])).bind fun v42 =>
      (bin .geq v42 (Value.int IntKind.i64 3)).bind fun v43 =>
      (asB v43).bind fun b44 =>
      (if b44 = true then (prun Tryz.prog (Instr.index 9 t0 (Value.int IntKind.i64 1))).bind fun v46 =>
        (call 138 #[v46] r31.2).bind fun r47 =>
        (bin .eql r47.1 (Value.int IntKind.u8 98)).bind fun v48 =>
        some (v48, r47.2)
       else some ((Value.bool false), r31.2)).bind fun r49 =>
      (asB r49.1).bind fun c40 =>
      if c40 then
        (prun Tryz.prog (Instr.sliceAt 9 t0 (some (Value.int IntKind.i64 2)) none none)).bind fun v51 =>
        some (Res.norm [v51, (Value.int IntKind.i64 2), A2, v22, t0] r49.2)
      else
      (prun Tryz.prog (Builtin.len_ #[9] 3 #[t0])).bind fun v54 =>
      (bin .geq v54 (Value.int IntKind.i64 3)).bind fun v55 =>
      (asB v55).bind fun b56 =>
      (if b56 = true then (prun Tryz.prog (Instr.index 9 t0 (Value.int IntKind.i64 1))).bind fun v58 =>
        (call 138 #[v58] r49.2).bind fun r59 =>
        (bin .eql r59.1 (Value.int IntKind.u8 111)).bind fun v60 =>
        some (v60, r59.2)
       else some ((Value.bool false), r49.2)).bind fun r61 =>
      (asB r61.1).bind fun c52 =>
      if c52 then
        (prun Tryz.prog (Instr.sliceAt 9 t0 (some (Value.int IntKind.i64 2)) none none)).bind fun v63 =>
        some (Res.norm [v63, (Value.int IntKind.i64 8), A2, v22, t0] r61.2)
      else
      (prun Tryz.prog (Builtin.len_ #[9] 3 #[t0])).bind fun v66 =>
      (bin .geq v66 (Value.int IntKind.i64 3)).bind fun v67 =>
      (asB v67).bind fun b68 =>
      (if b68 = true then (prun Tryz.prog (Instr.index 9 t0 (Value.int IntKind.i64 1))).bind fun v70 =>
        (call 138 #[v70] r61.2).bind fun r71 =>
        (bin .eql r71.1 (Value.int IntKind.u8 120)).bind fun v72 =>
        some (v72, r71.2)
       else some ((Value.bool false), r61.2)).bind fun r73 =>
      (asB r73.1).bind fun c64 =>
      if c64 then
        (prun Tryz.prog (Instr.sliceAt 9 t0 (some (Value.int IntKind.i64 2)) none none)).bind fun v75 =>
        some (Res.norm [v75, (Value.int IntKind.i64 16), A2, v22, t0] r73.2)
      else
      (prun Tryz.prog (Instr.sliceAt 9 t0 (some (Value.int IntKind.i64 1)) none none)).bind fun v39 =>
      some (Res.norm [v39, (Value.int IntKind.i64 8), A2, v22, t0] r73.2)).bind fun (r : Res) => (r.unblock 1).cont fun vs W1 =>
      let t0_1 := nth vs 0
      let o1_1 := nth vs 1
      let A2_1 := nth vs 2
      let v8 := nth vs 3
      let v9 := nth vs 4
      some (Res.norm [t0_1, o1_1, A2_1, v8, v9] W1)
    else
    some (Res.norm [t0, (Value.int IntKind.i64 10), A2, v22, t0] r31.2)
  else
  (prun Tryz.prog (Instr.makeInterface 198 (Value.int IntKind.i64 3))).bind fun v24 =>
  some (Res.ret [(Value.int IntKind.u64 0), v24] r31.2)).bind fun (r : Res) => (r.unblock 0).cont fun vs_1 W2 =>
  let t0_2 := nth vs_1 0
  let o1_2 := nth vs_1 1
  let A2_2 := nth vs_1 2
  let v8_1 := nth vs_1 3
  let v9_1 := nth vs_1 4
  (bin .eql A2_2 (Value.int IntKind.i64 0)).bind fun v77 =>
  (asB v77).bind fun c77 =>
  (if c77 then
    some (Res.norm [t0_2, o1_2, (Value.int IntKind.i64 64), v8_1, v9_1] W2)
   else
    (bin .lss A2_2 (Value.int IntKind.i64 0)).bind fun v79 =>
    (asB v79).bind fun b80 =>
    (if b80 = false then (bin .gtr A2_2 (Value.int IntKind.i64 64)).bind fun v82 =>
      some (v82, W2)
     else some ((Value.bool true), W2)).bind fun r83 =>
    (asB r83.1).bind fun c83 =>
    if c83 then
      (prun Tryz.prog (Instr.makeInterface 198 (Value.int IntKind.i64 4))).bind fun v84 =>
      some (Res.ret [(Value.int IntKind.u64 0), v84] r83.2)
    else
    some (Res.norm [t0_2, o1_2, A2_2, v8_1, v9_1] r83.2)).bind fun (r : Res) => r.cont fun vs_2 W3 =>
  let t0_3 := nth vs_2 0
  let o1_3 := nth vs_2 1
  let A2_3 := nth vs_2 2
  let v8_2 := nth vs_2 3
  let v9_2 := nth vs_2 4
  ((bin .eql o1_3 (Value.int IntKind.i64 10)).bind fun v91 =>
  (asB v91).bind fun c90 =>
  if c90 then
    some (Res.norm [t0_3, o1_3, A2_3, v8_2, v9_2, (Value.int IntKind.u64 1844674407370955162)] W3)
  else
  (bin .eql o1_3 (Value.int IntKind.i64 16)).bind fun v93 =>
  (asB v93).bind fun c92 =>
  if c92 then
    some (Res.norm [t0_3, o1_3, A2_3, v8_2, v9_2, (Value.int IntKind.u64 1152921504606846976)] W3)
  else
  (prun Tryz.prog (convert 3 159 o1_3)).bind fun v87 =>
  (bin .quo (Value.int IntKind.u64 18446744073709551615) v87).bind fun v88 =>
  (bin .add v88 (Value.int IntKind.u64 1)).bind fun v89 =>
  some (Res.norm [t0_3, o1_3, A2_3, v8_2, v9_2, v89] W3)).bind fun (r : Res) => (r.unblock 2).cont fun vs_3 W4 =>
  let t0_4 := nth vs_3 0
  let o1_4 := nth vs_3 1
  let A2_4 := nth vs_3 2
  let v8_3 := nth vs_3 3
  let v9_3 := nth vs_3 4
  let v10 := nth vs_3 5
  (prun Tryz.prog (convert 3 154 A2_4)).bind fun v95 =>
  (prun Tryz.prog (do eqGuard .shl 159 (Operand.const (Value.int IntKind.u64 1)) (Operand.tmp 95) (Value.int IntKind.u64 1) v95; binOp .shl 159 (Value.int IntKind.u64 1) v95)).bind fun v96 =>
  (bin .sub v96 (Value.int IntKind.u64 1)).bind fun v97 =>
  (erun Tryz.prog (convert 9 160 t0_4) W4).bind fun r99 =>
  (prun Tryz.prog (Builtin.len_ #[160] 3 #[r99.1])).bind fun v100 =>
  (iter (f129.l0 call) [o1_4, v8_3, v9_3, v10, v97, (Value.bool false), (Value.int IntKind.u64 0), r99.1, v100, (Value.int IntKind.i64 0)] r99.2).bind fun (r : Res) => (r.unblock 3).cont fun vs_7 W8 =>
  let v9_7 := nth vs_7 0
  let v12_3 := nth vs_7 1
  let v13_3 := nth vs_7 2
  (asB v12_3).bind fun b165 =>
  (if b165 = true then (call 139 #[v9_7] W8).bind fun r167 =>
    (prun Tryz.prog (Op.unary .not r167.1)).bind fun v168 =>
    some (v168, r167.2)
   else some ((Value.bool false), W8)).bind fun r169 =>
  (asB r169.1).bind fun c169 =>
  if c169 then
    (prun Tryz.prog (Instr.makeInterface 198 (Value.int IntKind.i64 2))).bind fun v170 =>
    some (Res.ret [(Value.int IntKind.u64 0), v170] r169.2)
  else
  some (Res.ret [v13_3, Value.nilIface] r169.2)).bind Res.done
theorem f129.eq (call dfr : CallF) (t0 : Value) (o1 : Value) (A2 : Value) (W0 : World) : aFun Tryz.prog call dfr Tryz.f129 f129.ann (ofArgs #[t0, o1, A2]) W0 = f129 call t0 o1 A2 W0 := by kernel_rfl

/-- internal/stringslite.Clone -/
def f130.ann : Ann := (.s .z (.s (.s .z (.c (.s .z .z) .z)) (.s .z (.s .z (.s .z .z)))))
noncomputable def f130 (call : CallF) (s0 : Value) (W0 : World) : Option (Value × World) :=
  ((prun Tryz.prog (Builtin.len_ #[9] 3 #[s0])).bind fun v5 =>
  (bin .eql v5 (Value.int IntKind.i64 0)).bind fun v6 =>
  (asB v6).bind fun c6 =>
  if c6 then
    some (Res.ret [(Value.string { data := #[] })] W0)
  else
  (prun Tryz.prog (Builtin.len_ #[9] 3 #[s0])).bind fun v8 =>
  (erun Tryz.prog (Instr.makeSlice 160 v8 v8) W0).bind fun r9 =>
  (erun Tryz.prog (Builtin.copy_ #[160, 9] 3 #[r9.1, s0]) r9.2).bind fun r12 =>
  (prun Tryz.prog (Instr.indexAt 160 r9.1 (Value.int IntKind.i64 0))).bind fun v14 =>
  (prun Tryz.prog (Builtin.len_ #[160] 3 #[r9.1])).bind fun v16 =>
  (erun Tryz.prog (Builtin.unsafeString_ #[219, 3] 9 #[v14, v16]) r12.2).bind fun r17 =>
  some (Res.ret [r17.1] r17.2)).bind Res.done
theorem f130.eq (call dfr : CallF) (s0 : Value) (W0 : World) : aFun Tryz.prog call dfr Tryz.f130 f130.ann (ofArgs #[s0]) W0 = f130 call s0 W0 := by kernel_rfl

/-- (dailies/timecode.rate).form -/
def f132.ann : Ann := (.s .z (.s .z (.s (.s .z (.b [1, 5] (.l [1, 2, 5, 9] (.s .z (.s (.c .z .z) (.b [1, 2, 5, 9] (.s .z (.s (.b [1, 2, 5, 9] (.s .z (.c (.s .z .z) (.s .z (.c (.s .z (.c (.s .z .z) .z)) (.s .z (.c (.s .z (.c (.s .z .z) .z)) (.s .z (.c (.s .z .z) .z))))))))) .z)))))))) (.s (.s .z (.c (.s .z .z) .z)) (.s .z .z)))))
noncomputable def f132.l0 (call : CallF) (vs : List Value) (W1 : World) : Option Res :=
  let s1_1 := nth vs 0
  let x2 := nth vs 1
  let at5 := nth vs 2
  let v9 := nth vs 3
  (erun Tryz.prog (Instr.next v9 true 0) W1).bind fun r10 =>
  (prun Tryz.prog (Instr.extract r10.1 0)).bind fun v11 =>
  (asB v11).bind fun c11 =>
  if c11 then
    ((prun Tryz.prog (Instr.extract r10.1 1)).bind fun v12 =>
    (prun Tryz.prog (Instr.extract r10.1 2)).bind fun v13 =>
    ((bin .eql at5 (Value.int IntKind.i64 11)).bind fun v16 =>
    (asB v16).bind fun c14 =>
    if c14 then
      some (Res.ret [(Value.int IntKind.i64 11)] r10.2)
    else
    (bin .eql at5 (Value.int IntKind.i64 8)).bind fun v19 =>
    (asB v19).bind fun c17 =>
    if c17 then
      (rrun Tryz.prog (Instr.loadAt 145 x2) r10.2).bind fun v21 =>
      (call 113 #[v21] r10.2).bind fun r22 =>
      (prun Tryz.prog (convert 5 21 r22.1)).bind fun v23 =>
      (bin .neq v13 v23).bind fun v24 =>
      (asB v24).bind fun c24 =>
      if c24 then
        some (Res.ret [v12] r22.2)
      else
      some (Res.norm [s1_1, x2, at5, v9] r22.2)
    else
    (bin .rem at5 (Value.int IntKind.i64 3)).bind fun v28 =>
    (bin .eql v28 (Value.int IntKind.i64 2)).bind fun v29 =>
    (asB v29).bind fun c26 =>
    if c26 then
      (bin .neq v13 (Value.int IntKind.i32 58)).bind fun v31 =>
      (asB v31).bind fun c31 =>
      if c31 then
        some (Res.ret [v12] r10.2)
      else
      some (Res.norm [s1_1, x2, at5, v9] r10.2)
    else
    (bin .lss v13 (Value.int IntKind.i32 48)).bind fun v35 =>
    (asB v35).bind fun b36 =>
    (if b36 = false then (bin .gtr v13 (Value.int IntKind.i32 57)).bind fun v38 =>
      some (v38, r10.2)
     else some ((Value.bool true), r10.2)).bind fun r39 =>
    (asB r39.1).bind fun c33 =>
    if c33 then
      some (Res.ret [v12] r39.2)
    else
    some (Res.norm [s1_1, x2, at5, v9] r39.2)).bind fun (r : Res) => (r.unblock 2).cont fun vs_1 W2 =>
    let s1_2 := nth vs_1 0
    let x2_1 := nth vs_1 1
    let at5_1 := nth vs_1 2
    let v9_1 := nth vs_1 3
    (bin .add at5_1 (Value.int IntKind.i64 1)).bind fun v42 =>
    some (Res.norm [s1_2, x2_1, v42, v9_1] W2)).bind fun (r : Res) => (r.unblock 1).cont fun vs_2 W3 =>
    let s1_3 := nth vs_2 0
    let x2_2 := nth vs_2 1
    let at5_2 := nth vs_2 2
    let v9_2 := nth vs_2 3
    some (Res.norm [s1_3, x2_2, at5_2, v9_2] W3)
  else
  some (Res.exit 0 [s1_1, at5] r10.2)
noncomputable def f132 (call : CallF) (x0 : Value) (s1 : Value) (W0 : World) : Option (Value × World) :=
  ((erun Tryz.prog (Instr.box 145 x0) W0).bind fun r2 =>
  (erun Tryz.prog (Instr.range 9 s1) r2.2).bind fun r9 =>
  (iter (f132.l0 call) [s1, r2.1, (Value.int IntKind.i64 0), r9.1] r9.2).bind fun (r : Res) => (r.unblock 0).cont fun vs_3 W4 =>
  let s1_4 := nth vs_3 0
  let at5_3 := nth vs_3 1
  (bin .lss at5_3 (Value.int IntKind.i64 11)).bind fun v44 =>
  (asB v44).bind fun c44 =>
  if c44 then
    (prun Tryz.prog (Builtin.len_ #[9] 3 #[s1_4])).bind fun v46 =>
    some (Res.ret [v46] W4)
  else
  some (Res.ret [(Value.int IntKind.i64 (-1))] W4)).bind Res.done
theorem f132.eq (call dfr : CallF) (x0 : Value) (s1 : Value) (W0 : World) : aFun Tryz.prog call dfr Tryz.f132 f132.ann (ofArgs #[x0, s1]) W0 = f132 call x0 s1 W0 := by kernel_rfl

/-- (dailies/timecode.rate).read$1 -/
def f133.ann : Ann := (.s .z (.s .z .z))
noncomputable def f133 (call : CallF) (at0 : Value) (v1 : Value) (W0 : World) : Option (Value × World) :=
  ((rrun Tryz.prog (Instr.loadAt 9 v1) W0.drew).bind fun v4 =>
  (prun Tryz.prog (Instr.index 9 v4 at0)).bind fun v6 =>
  (bin .sub v6 (Value.int IntKind.u8 48)).bind fun v7 =>
  (prun Tryz.prog (convert 5 3 v7)).bind fun v8 =>
  (bin .mul (Value.int IntKind.i64 10) v8).bind fun v9 =>
  (rrun Tryz.prog (Instr.loadAt 9 v1) W0.drew).bind fun v10 =>
  (bin .add at0 (Value.int IntKind.i64 1)).bind fun v12 =>
  (prun Tryz.prog (Instr.index 9 v10 v12)).bind fun v13 =>
  (bin .sub v13 (Value.int IntKind.u8 48)).bind fun v14 =>
  (prun Tryz.prog (convert 5 3 v14)).bind fun v15 =>
  (bin .add v9 v15).bind fun v16 =>
  some (Res.ret [v16] W0.drew)).bind Res.done
theorem f133.eq (call dfr : CallF) (at0 : Value) (v1 : Value) (W0 : World) : aFun Tryz.prog call dfr Tryz.f133 f133.ann (ofArgs #[at0, v1]) W0 = f133 call at0 v1 W0 := by kernel_rfl

/-- internal/strconv.lower -/
def f138.ann : Ann := (.s .z (.s .z .z))
noncomputable def f138 (call : CallF) (c0 : Value) (W0 : World) : Option (Value × World) :=
  ((prun Tryz.prog (do eqGuard .or 5 (Operand.tmp 3) (Operand.const (Value.int IntKind.u8 32)) c0 (Value.int IntKind.u8 32); binOp .or 5 c0 (Value.int IntKind.u8 32))).bind fun v4 =>
  some (Res.ret [v4] W0)).bind Res.done
theorem f138.eq (call dfr : CallF) (c0 : Value) (W0 : World) : aFun Tryz.prog call dfr Tryz.f138 f138.ann (ofArgs #[c0]) W0 = f138 call c0 W0 := by kernel_rfl

/-- strings.makeASCIISet -/
def f96.ann : Ann := (.s .z (.s (.s .z (.b [2] (.l [0, 2, 4] (.s (.s .z (.c .z .z)) (.s (.b [0, 2, 4] (.s .z (.s (.s .z (.c (.s .z .z) .z)) .z))) .z))))) (.s .z .z)))
noncomputable def f96.l0 (call : CallF) (vs : List Value) (W1 : World) : Option Res :=
  let chars0_1 := nth vs 0
  let as2 := nth vs 1
  let i4 := nth vs 2
  (prun Tryz.prog (Builtin.len_ #[9] 3 #[chars0_1])).bind fun v8 =>
  (bin .lss i4 v8).bind fun v9 =>
  (asB v9).bind fun c9 =>
  if c9 then
    ((prun Tryz.prog (Instr.index 9 chars0_1 i4)).bind fun v14 =>
    (bin .geq v14 (Value.int IntKind.u8 128)).bind fun v16 =>
    (asB v16).bind fun c16 =>
    if c16 then
      (rrun Tryz.prog (Instr.loadAt 175 as2) W1).bind fun v17 =>
      (erun Tryz.prog (Instr.storeAt 175 as2 v17) W1).bind fun r =>
      some (Res.ret [as2, (Value.bool false)] r.2)
    else
    (prun Tryz.prog (Instr.indexAt 175 as2 v14)).bind fun v19 =>
    (erun Tryz.prog (Instr.storeAt 4 v19 (Value.bool true)) W1).bind fun r_1 =>
    some (Res.norm [chars0_1, as2, i4] r_1.2)).bind fun (r : Res) => (r.unblock 1).cont fun vs_1 W2 =>
    let chars0_2 := nth vs_1 0
    let as2_1 := nth vs_1 1
    let i4_1 := nth vs_1 2
    (bin .add i4_1 (Value.int IntKind.i64 1)).bind fun v11 =>
    some (Res.norm [chars0_2, as2_1, v11] W2)
  else
  some (Res.exit 0 [as2] W1)
noncomputable def f96 (call : CallF) (chars0 : Value) (W0 : World) : Option (Value × World) :=
  ((erun Tryz.prog (Instr.alloc 175 true (.tuple #[])) W0).bind fun r2 =>
  (iter (f96.l0 call) [chars0, r2.1, (Value.int IntKind.i64 0)] r2.2).bind fun (r : Res) => (r.unblock 0).cont fun vs_2 W3 =>
  let as2_2 := nth vs_2 0
  (rrun Tryz.prog (Instr.loadAt 175 as2_2) W3).bind fun v20 =>
  (erun Tryz.prog (Instr.storeAt 175 as2_2 v20) W3).bind fun r_2 =>
  some (Res.ret [as2_2, (Value.bool true)] r_2.2)).bind (Res.doneR Tryz.prog [.cell 2 175, .tmp 3])
theorem f96.eq (call dfr : CallF) (chars0 : Value) (W0 : World) : aFun Tryz.prog call dfr Tryz.f96 f96.ann (ofArgs #[chars0]) W0 = f96 call chars0 W0 := by kernel_rfl

def anns (f : FuncId) : Ann := match f with
  | 7 => f7.ann
  | 9 => f9.ann
  | 11 => f11.ann
  | 15 => f15.ann
  | 17 => f17.ann
  | 21 => f21.ann
  | 22 => f22.ann
  | 23 => f23.ann
  | 24 => f24.ann
  | 25 => f25.ann
  | 26 => f26.ann
  | 27 => f27.ann
  | 28 => f28.ann
  | 33 => f33.ann
  | 34 => f34.ann
  | 37 => f37.ann
  | 38 => f38.ann
  | 39 => f39.ann
  | 40 => f40.ann
  | 46 => f46.ann
  | 49 => f49.ann
  | 50 => f50.ann
  | 51 => f51.ann
  | 54 => f54.ann
  | 55 => f55.ann
  | 56 => f56.ann
  | 57 => f57.ann
  | 58 => f58.ann
  | 59 => f59.ann
  | 60 => f60.ann
  | 61 => f61.ann
  | 62 => f62.ann
  | 63 => f63.ann
  | 64 => f64.ann
  | 65 => f65.ann
  | 66 => f66.ann
  | 67 => f67.ann
  | 68 => f68.ann
  | 80 => f80.ann
  | 81 => f81.ann
  | 82 => f82.ann
  | 83 => f83.ann
  | 89 => f89.ann
  | 90 => f90.ann
  | 92 => f92.ann
  | 94 => f94.ann
  | 95 => f95.ann
  | 97 => f97.ann
  | 98 => f98.ann
  | 99 => f99.ann
  | 100 => f100.ann
  | 106 => f106.ann
  | 109 => f109.ann
  | 110 => f110.ann
  | 111 => f111.ann
  | 112 => f112.ann
  | 113 => f113.ann
  | 115 => f115.ann
  | 118 => f118.ann
  | 119 => f119.ann
  | 120 => f120.ann
  | 123 => f123.ann
  | 127 => f127.ann
  | 129 => f129.ann
  | 130 => f130.ann
  | 132 => f132.ann
  | 133 => f133.ann
  | 138 => f138.ann
  | 96 => f96.ann
  | _ => .z
noncomputable abbrev R (prim : Prim) : CallF := Go.Sh.run Tryz.prog anns prim
theorem f7.run {prim : Prim} {l0 s1 : Value} {w : World} {r : Value × World} (hn : prim.call 7 #[l0, s1] w = none) (h : f7 (R prim) l0 s1 w = some r) : R prim 7 #[l0, s1] w = some r := run_body Tryz.func7 (by kernel_rfl) hn (by rw [show anns 7 = f7.ann from rfl, f7.eq]; exact h)
theorem f9.run {prim : Prim} {s0 : Value} {w : World} {r : Value × World} (hn : prim.call 9 #[s0] w = none) (h : f9 (R prim) s0 w = some r) : R prim 9 #[s0] w = some r := run_body Tryz.func9 (by kernel_rfl) hn (by rw [show anns 9 = f9.ann from rfl, f9.eq]; exact h)
theorem f11.run {prim : Prim} {a0 b1 : Value} {w : World} {r : Value × World} (hn : prim.call 11 #[a0, b1] w = none) (h : f11 (R prim) a0 b1 w = some r) : R prim 11 #[a0, b1] w = some r := run_body Tryz.func11 (by kernel_rfl) hn (by rw [show anns 11 = f11.ann from rfl, f11.eq]; exact h)
theorem f15.run {prim : Prim} {l0 : Value} {w : World} {r : Value × World} (hn : prim.call 15 #[l0] w = none) (h : f15 (R prim) l0 w = some r) : R prim 15 #[l0] w = some r := run_body Tryz.func15 (by kernel_rfl) hn (by rw [show anns 15 = f15.ann from rfl, f15.eq]; exact h)
theorem f17.run {prim : Prim} {l0 : Value} {w : World} {r : Value × World} (hn : prim.call 17 #[l0] w = none) (h : f17 (R prim) l0 w = some r) : R prim 17 #[l0] w = some r := run_body Tryz.func17 (by kernel_rfl) hn (by rw [show anns 17 = f17.ann from rfl, f17.eq]; exact h)
theorem f21.run {prim : Prim} {l0 : Value} {w : World} {r : Value × World} (hn : prim.call 21 #[l0] w = none) (h : f21 (R prim) l0 w = some r) : R prim 21 #[l0] w = some r := run_body Tryz.func21 (by kernel_rfl) hn (by rw [show anns 21 = f21.ann from rfl, f21.eq]; exact h)
theorem f22.run {prim : Prim} {err0 target1 : Value} {w : World} {r : Value × World} (hn : prim.call 22 #[err0, target1] w = none) (h : f22 (R prim) err0 target1 w = some r) : R prim 22 #[err0, target1] w = some r := run_body Tryz.func22 (by kernel_rfl) hn (by rw [show anns 22 = f22.ann from rfl, f22.eq]; exact h)
theorem f23.run {prim : Prim} {at0 e1 : Value} {w : World} {r : Value × World} (hn : prim.call 23 #[at0, e1] w = none) (h : f23 (R prim) at0 e1 w = some r) : R prim 23 #[at0, e1] w = some r := run_body Tryz.func23 (by kernel_rfl) hn (by rw [show anns 23 = f23.ann from rfl, f23.eq]; exact h)
theorem f24.run {prim : Prim} {s0 : Value} {w : World} {r : Value × World} (hn : prim.call 24 #[s0] w = none) (h : f24 (R prim) s0 w = some r) : R prim 24 #[s0] w = some r := run_body Tryz.func24 (by kernel_rfl) hn (by rw [show anns 24 = f24.ann from rfl, f24.eq]; exact h)
theorem f25.run {prim : Prim} {s0 c1 : Value} {w : World} {r : Value × World} (hn : prim.call 25 #[s0, c1] w = none) (h : f25 (R prim) s0 c1 w = some r) : R prim 25 #[s0, c1] w = some r := run_body Tryz.func25 (by kernel_rfl) hn (by rw [show anns 25 = f25.ann from rfl, f25.eq]; exact h)
theorem f26.run {prim : Prim} {s0 at1 to2 : Value} {w : World} {r : Value × World} (hn : prim.call 26 #[s0, at1, to2] w = none) (h : f26 (R prim) s0 at1 to2 w = some r) : R prim 26 #[s0, at1, to2] w = some r := run_body Tryz.func26 (by kernel_rfl) hn (by rw [show anns 26 = f26.ann from rfl, f26.eq]; exact h)
theorem f27.run {prim : Prim} {r0 : Value} {w : World} {r : Value × World} (hn : prim.call 27 #[r0] w = none) (h : f27 (R prim) r0 w = some r) : R prim 27 #[r0] w = some r := run_body Tryz.func27 (by kernel_rfl) hn (by rw [show anns 27 = f27.ann from rfl, f27.eq]; exact h)
theorem f28.run {prim : Prim} {t0 o1 : Value} {w : World} {r : Value × World} (hn : prim.call 28 #[t0, o1] w = none) (h : f28 (R prim) t0 o1 w = some r) : R prim 28 #[t0, o1] w = some r := run_body Tryz.func28 (by kernel_rfl) hn (by rw [show anns 28 = f28.ann from rfl, f28.eq]; exact h)
theorem f33.run {prim : Prim} {a0 b1 : Value} {w : World} {r : Value × World} (hn : prim.call 33 #[a0, b1] w = none) (h : f33 (R prim) a0 b1 w = some r) : R prim 33 #[a0, b1] w = some r := run_body Tryz.func33 (by kernel_rfl) hn (by rw [show anns 33 = f33.ann from rfl, f33.eq]; exact h)
theorem f34.run {prim : Prim} {err0 target1 : Value} {w : World} {r : Value × World} (hn : prim.call 34 #[err0, target1] w = none) (h : f34 (R prim) err0 target1 w = some r) : R prim 34 #[err0, target1] w = some r := run_body Tryz.func34 (by kernel_rfl) hn (by rw [show anns 34 = f34.ann from rfl, f34.eq]; exact h)
theorem f37.run {prim : Prim} {r0 : Value} {w : World} {r : Value × World} (hn : prim.call 37 #[r0] w = none) (h : f37 (R prim) r0 w = some r) : R prim 37 #[r0] w = some r := run_body Tryz.func37 (by kernel_rfl) hn (by rw [show anns 37 = f37.ann from rfl, f37.eq]; exact h)
theorem f38.run {prim : Prim} {event0 e1 : Value} {w : World} {r : Value × World} (hn : prim.call 38 #[event0, e1] w = none) (h : f38 (R prim) event0 e1 w = some r) : R prim 38 #[event0, e1] w = some r := run_body Tryz.func38 (by kernel_rfl) hn (by rw [show anns 38 = f38.ann from rfl, f38.eq]; exact h)
theorem f39.run {prim : Prim} {t0 : Value} {w : World} {r : Value × World} (hn : prim.call 39 #[t0] w = none) (h : f39 (R prim) t0 w = some r) : R prim 39 #[t0] w = some r := run_body Tryz.func39 (by kernel_rfl) hn (by rw [show anns 39 = f39.ann from rfl, f39.eq]; exact h)
theorem f40.run {prim : Prim} {ahead0 e1 day2 : Value} {w : World} {r : Value × World} (hn : prim.call 40 #[ahead0, e1, day2] w = none) (h : f40 (R prim) ahead0 e1 day2 w = some r) : R prim 40 #[ahead0, e1, day2] w = some r := run_body Tryz.func40 (by kernel_rfl) hn (by rw [show anns 40 = f40.ann from rfl, f40.eq]; exact h)
theorem f46.run {prim : Prim} {e0 : Value} {w : World} {r : Value × World} (hn : prim.call 46 #[e0] w = none) (h : f46 (R prim) e0 w = some r) : R prim 46 #[e0] w = some r := run_body Tryz.func46 (by kernel_rfl) hn (by rw [show anns 46 = f46.ann from rfl, f46.eq]; exact h)
theorem f49.run {prim : Prim} {r0 : Value} {w : World} {r : Value × World} (hn : prim.call 49 #[r0] w = none) (h : f49 (R prim) r0 w = some r) : R prim 49 #[r0] w = some r := run_body Tryz.func49 (by kernel_rfl) hn (by rw [show anns 49 = f49.ann from rfl, f49.eq]; exact h)
theorem f50.run {prim : Prim} {s0 : Value} {w : World} {r : Value × World} (hn : prim.call 50 #[s0] w = none) (h : f50 (R prim) s0 w = some r) : R prim 50 #[s0] w = some r := run_body Tryz.func50 (by kernel_rfl) hn (by rw [show anns 50 = f50.ann from rfl, f50.eq]; exact h)
theorem f51.run {prim : Prim} {e0 r1 : Value} {w : World} {r : Value × World} (hn : prim.call 51 #[e0, r1] w = none) (h : f51 (R prim) e0 r1 w = some r) : R prim 51 #[e0, r1] w = some r := run_body Tryz.func51 (by kernel_rfl) hn (by rw [show anns 51 = f51.ann from rfl, f51.eq]; exact h)
theorem f54.run {prim : Prim} {s0 : Value} {w : World} {r : Value × World} (hn : prim.call 54 #[s0] w = none) (h : f54 (R prim) s0 w = some r) : R prim 54 #[s0] w = some r := run_body Tryz.func54 (by kernel_rfl) hn (by rw [show anns 54 = f54.ann from rfl, f54.eq]; exact h)
theorem f55.run {prim : Prim} {s0 c1 : Value} {w : World} {r : Value × World} (hn : prim.call 55 #[s0, c1] w = none) (h : f55 (R prim) s0 c1 w = some r) : R prim 55 #[s0, c1] w = some r := run_body Tryz.func55 (by kernel_rfl) hn (by rw [show anns 55 = f55.ann from rfl, f55.eq]; exact h)
theorem f56.run {prim : Prim} {s0 : Value} {w : World} {r : Value × World} (hn : prim.call 56 #[s0] w = none) (h : f56 (R prim) s0 w = some r) : R prim 56 #[s0] w = some r := run_body Tryz.func56 (by kernel_rfl) hn (by rw [show anns 56 = f56.ann from rfl, f56.eq]; exact h)
theorem f57.run {prim : Prim} {s0 chars1 : Value} {w : World} {r : Value × World} (hn : prim.call 57 #[s0, chars1] w = none) (h : f57 (R prim) s0 chars1 w = some r) : R prim 57 #[s0, chars1] w = some r := run_body Tryz.func57 (by kernel_rfl) hn (by rw [show anns 57 = f57.ann from rfl, f57.eq]; exact h)
theorem f58.run {prim : Prim} {r0 holds1 : Value} {w : World} {r : Value × World} (hn : prim.call 58 #[r0, holds1] w = none) (h : f58 (R prim) r0 holds1 w = some r) : R prim 58 #[r0, holds1] w = some r := run_body Tryz.func58 (by kernel_rfl) hn (by rw [show anns 58 = f58.ann from rfl, f58.eq]; exact h)
theorem f59.run {prim : Prim} {s0 : Value} {w : World} {r : Value × World} (hn : prim.call 59 #[s0] w = none) (h : f59 (R prim) s0 w = some r) : R prim 59 #[s0] w = some r := run_body Tryz.func59 (by kernel_rfl) hn (by rw [show anns 59 = f59.ann from rfl, f59.eq]; exact h)
theorem f60.run {prim : Prim} {s0 : Value} {w : World} {r : Value × World} (hn : prim.call 60 #[s0] w = none) (h : f60 (R prim) s0 w = some r) : R prim 60 #[s0] w = some r := run_body Tryz.func60 (by kernel_rfl) hn (by rw [show anns 60 = f60.ann from rfl, f60.eq]; exact h)
theorem f61.run {prim : Prim} {s0 : Value} {w : World} {r : Value × World} (hn : prim.call 61 #[s0] w = none) (h : f61 (R prim) s0 w = some r) : R prim 61 #[s0] w = some r := run_body Tryz.func61 (by kernel_rfl) hn (by rw [show anns 61 = f61.ann from rfl, f61.eq]; exact h)
theorem f62.run {prim : Prim} {r0 text1 : Value} {w : World} {r : Value × World} (hn : prim.call 62 #[r0, text1] w = none) (h : f62 (R prim) r0 text1 w = some r) : R prim 62 #[r0, text1] w = some r := run_body Tryz.func62 (by kernel_rfl) hn (by rw [show anns 62 = f62.ann from rfl, f62.eq]; exact h)
theorem f63.run {prim : Prim} {r0 : Value} {w : World} {r : Value × World} (hn : prim.call 63 #[r0] w = none) (h : f63 (R prim) r0 w = some r) : R prim 63 #[r0] w = some r := run_body Tryz.func63 (by kernel_rfl) hn (by rw [show anns 63 = f63.ann from rfl, f63.eq]; exact h)
theorem f64.run {prim : Prim} {s0 : Value} {w : World} {r : Value × World} (hn : prim.call 64 #[s0] w = none) (h : f64 (R prim) s0 w = some r) : R prim 64 #[s0] w = some r := run_body Tryz.func64 (by kernel_rfl) hn (by rw [show anns 64 = f64.ann from rfl, f64.eq]; exact h)
theorem f65.run {prim : Prim} {s0 : Value} {w : World} {r : Value × World} (hn : prim.call 65 #[s0] w = none) (h : f65 (R prim) s0 w = some r) : R prim 65 #[s0] w = some r := run_body Tryz.func65 (by kernel_rfl) hn (by rw [show anns 65 = f65.ann from rfl, f65.eq]; exact h)
theorem f66.run {prim : Prim} {s0 : Value} {w : World} {r : Value × World} (hn : prim.call 66 #[s0] w = none) (h : f66 (R prim) s0 w = some r) : R prim 66 #[s0] w = some r := run_body Tryz.func66 (by kernel_rfl) hn (by rw [show anns 66 = f66.ann from rfl, f66.eq]; exact h)
theorem f67.run {prim : Prim} {s0 : Value} {w : World} {r : Value × World} (hn : prim.call 67 #[s0] w = none) (h : f67 (R prim) s0 w = some r) : R prim 67 #[s0] w = some r := run_body Tryz.func67 (by kernel_rfl) hn (by rw [show anns 67 = f67.ann from rfl, f67.eq]; exact h)
theorem f68.run {prim : Prim} {r0 rate1 : Value} {w : World} {r : Value × World} (hn : prim.call 68 #[r0, rate1] w = none) (h : f68 (R prim) r0 rate1 w = some r) : R prim 68 #[r0, rate1] w = some r := run_body Tryz.func68 (by kernel_rfl) hn (by rw [show anns 68 = f68.ann from rfl, f68.eq]; exact h)
theorem f80.run {prim : Prim} {r0 : Value} {w : World} {r : Value × World} (hn : prim.call 80 #[r0] w = none) (h : f80 (R prim) r0 w = some r) : R prim 80 #[r0] w = some r := run_body Tryz.func80 (by kernel_rfl) hn (by rw [show anns 80 = f80.ann from rfl, f80.eq]; exact h)
theorem f81.run {prim : Prim} {x0 : Value} {w : World} {r : Value × World} (hn : prim.call 81 #[x0] w = none) (h : f81 (R prim) x0 w = some r) : R prim 81 #[x0] w = some r := run_body Tryz.func81 (by kernel_rfl) hn (by rw [show anns 81 = f81.ann from rfl, f81.eq]; exact h)
theorem f82.run {prim : Prim} {s0 : Value} {w : World} {r : Value × World} (hn : prim.call 82 #[s0] w = none) (h : f82 (R prim) s0 w = some r) : R prim 82 #[s0] w = some r := run_body Tryz.func82 (by kernel_rfl) hn (by rw [show anns 82 = f82.ann from rfl, f82.eq]; exact h)
theorem f83.run {prim : Prim} {ahead0 e1 : Value} {w : World} {r : Value × World} (hn : prim.call 83 #[ahead0, e1] w = none) (h : f83 (R prim) ahead0 e1 w = some r) : R prim 83 #[ahead0, e1] w = some r := run_body Tryz.func83 (by kernel_rfl) hn (by rw [show anns 83 = f83.ann from rfl, f83.eq]; exact h)
theorem f89.run {prim : Prim} {p0 r1 : Value} {w : World} {r : Value × World} (hn : prim.call 89 #[p0, r1] w = none) (h : f89 (R prim) p0 r1 w = some r) : R prim 89 #[p0, r1] w = some r := run_body Tryz.func89 (by kernel_rfl) hn (by rw [show anns 89 = f89.ann from rfl, f89.eq]; exact h)
theorem f90.run {prim : Prim} {r0 n1 : Value} {w : World} {r : Value × World} (hn : prim.call 90 #[r0, n1] w = none) (h : f90 (R prim) r0 n1 w = some r) : R prim 90 #[r0, n1] w = some r := run_body Tryz.func90 (by kernel_rfl) hn (by rw [show anns 90 = f90.ann from rfl, f90.eq]; exact h)
theorem f92.run {prim : Prim} {s0 : Value} {w : World} {r : Value × World} (hn : prim.call 92 #[s0] w = none) (h : f92 (R prim) s0 w = some r) : R prim 92 #[s0] w = some r := run_body Tryz.func92 (by kernel_rfl) hn (by rw [show anns 92 = f92.ann from rfl, f92.eq]; exact h)
theorem f94.run {prim : Prim} {t0 o1 : Value} {w : World} {r : Value × World} (hn : prim.call 94 #[t0, o1] w = none) (h : f94 (R prim) t0 o1 w = some r) : R prim 94 #[t0, o1] w = some r := run_body Tryz.func94 (by kernel_rfl) hn (by rw [show anns 94 = f94.ann from rfl, f94.eq]; exact h)
theorem f95.run {prim : Prim} {bufLen0 : Value} {w : World} {r : Value × World} (hn : prim.call 95 #[bufLen0] w = none) (h : f95 (R prim) bufLen0 w = some r) : R prim 95 #[bufLen0] w = some r := run_body Tryz.func95 (by kernel_rfl) hn (by rw [show anns 95 = f95.ann from rfl, f95.eq]; exact h)
theorem f97.run {prim : Prim} {as0 c1 : Value} {w : World} {r : Value × World} (hn : prim.call 97 #[as0, c1] w = none) (h : f97 (R prim) as0 c1 w = some r) : R prim 97 #[as0, c1] w = some r := run_body Tryz.func97 (by kernel_rfl) hn (by rw [show anns 97 = f97.ann from rfl, f97.eq]; exact h)
theorem f98.run {prim : Prim} {s0 : Value} {w : World} {r : Value × World} (hn : prim.call 98 #[s0] w = none) (h : f98 (R prim) s0 w = some r) : R prim 98 #[s0] w = some r := run_body Tryz.func98 (by kernel_rfl) hn (by rw [show anns 98 = f98.ann from rfl, f98.eq]; exact h)
theorem f99.run {prim : Prim} {fn0 s1 base2 bitSize3 err4 : Value} {w : World} {r : Value × World} (hn : prim.call 99 #[fn0, s1, base2, bitSize3, err4] w = none) (h : f99 (R prim) fn0 s1 base2 bitSize3 err4 w = some r) : R prim 99 #[fn0, s1, base2, bitSize3, err4] w = some r := run_body Tryz.func99 (by kernel_rfl) hn (by rw [show anns 99 = f99.ann from rfl, f99.eq]; exact h)
theorem f100.run {prim : Prim} {r0 s1 : Value} {w : World} {r : Value × World} (hn : prim.call 100 #[r0, s1] w = none) (h : f100 (R prim) r0 s1 w = some r) : R prim 100 #[r0, s1] w = some r := run_body Tryz.func100 (by kernel_rfl) hn (by rw [show anns 100 = f100.ann from rfl, f100.eq]; exact h)
theorem f106.run {prim : Prim} {x0 : Value} {w : World} {r : Value × World} (hn : prim.call 106 #[x0] w = none) (h : f106 (R prim) x0 w = some r) : R prim 106 #[x0] w = some r := run_body Tryz.func106 (by kernel_rfl) hn (by rw [show anns 106 = f106.ann from rfl, f106.eq]; exact h)
theorem f109.run {prim : Prim} {p0 r1 : Value} {w : World} {r : Value × World} (hn : prim.call 109 #[p0, r1] w = none) (h : f109 (R prim) p0 r1 w = some r) : R prim 109 #[p0, r1] w = some r := run_body Tryz.func109 (by kernel_rfl) hn (by rw [show anns 109 = f109.ann from rfl, f109.eq]; exact h)
theorem f110.run {prim : Prim} {r0 n1 : Value} {w : World} {r : Value × World} (hn : prim.call 110 #[r0, n1] w = none) (h : f110 (R prim) r0 n1 w = some r) : R prim 110 #[r0, n1] w = some r := run_body Tryz.func110 (by kernel_rfl) hn (by rw [show anns 110 = f110.ann from rfl, f110.eq]; exact h)
theorem f111.run {prim : Prim} {x0 n1 : Value} {w : World} {r : Value × World} (hn : prim.call 111 #[x0, n1] w = none) (h : f111 (R prim) x0 n1 w = some r) : R prim 111 #[x0, n1] w = some r := run_body Tryz.func111 (by kernel_rfl) hn (by rw [show anns 111 = f111.ann from rfl, f111.eq]; exact h)
theorem f112.run {prim : Prim} {b0 n1 : Value} {w : World} {r : Value × World} (hn : prim.call 112 #[b0, n1] w = none) (h : f112 (R prim) b0 n1 w = some r) : R prim 112 #[b0, n1] w = some r := run_body Tryz.func112 (by kernel_rfl) hn (by rw [show anns 112 = f112.ann from rfl, f112.eq]; exact h)
theorem f113.run {prim : Prim} {x0 : Value} {w : World} {r : Value × World} (hn : prim.call 113 #[x0] w = none) (h : f113 (R prim) x0 w = some r) : R prim 113 #[x0] w = some r := run_body Tryz.func113 (by kernel_rfl) hn (by rw [show anns 113 = f113.ann from rfl, f113.eq]; exact h)
theorem f115.run {prim : Prim} {r0 : Value} {w : World} {r : Value × World} (hn : prim.call 115 #[r0] w = none) (h : f115 (R prim) r0 w = some r) : R prim 115 #[r0] w = some r := run_body Tryz.func115 (by kernel_rfl) hn (by rw [show anns 115 = f115.ann from rfl, f115.eq]; exact h)
theorem f118.run {prim : Prim} {s0 base1 bitSize2 : Value} {w : World} {r : Value × World} (hn : prim.call 118 #[s0, base1, bitSize2] w = none) (h : f118 (R prim) s0 base1 bitSize2 w = some r) : R prim 118 #[s0, base1, bitSize2] w = some r := run_body Tryz.func118 (by kernel_rfl) hn (by rw [show anns 118 = f118.ann from rfl, f118.eq]; exact h)
theorem f119.run {prim : Prim} {fn0 str1 : Value} {w : World} {r : Value × World} (hn : prim.call 119 #[fn0, str1] w = none) (h : f119 (R prim) fn0 str1 w = some r) : R prim 119 #[fn0, str1] w = some r := run_body Tryz.func119 (by kernel_rfl) hn (by rw [show anns 119 = f119.ann from rfl, f119.eq]; exact h)
theorem f120.run {prim : Prim} {fn0 str1 : Value} {w : World} {r : Value × World} (hn : prim.call 120 #[fn0, str1] w = none) (h : f120 (R prim) fn0 str1 w = some r) : R prim 120 #[fn0, str1] w = some r := run_body Tryz.func120 (by kernel_rfl) hn (by rw [show anns 120 = f120.ann from rfl, f120.eq]; exact h)
theorem f123.run {prim : Prim} {x0 s1 : Value} {w : World} {r : Value × World} (hn : prim.call 123 #[x0, s1] w = none) (h : f123 (R prim) x0 s1 w = some r) : R prim 123 #[x0, s1] w = some r := run_body Tryz.func123 (by kernel_rfl) hn (by rw [show anns 123 = f123.ann from rfl, f123.eq]; exact h)
theorem f127.run {prim : Prim} {x0 : Value} {w : World} {r : Value × World} (hn : prim.call 127 #[x0] w = none) (h : f127 (R prim) x0 w = some r) : R prim 127 #[x0] w = some r := run_body Tryz.func127 (by kernel_rfl) hn (by rw [show anns 127 = f127.ann from rfl, f127.eq]; exact h)
theorem f129.run {prim : Prim} {t0 o1 A2 : Value} {w : World} {r : Value × World} (hn : prim.call 129 #[t0, o1, A2] w = none) (h : f129 (R prim) t0 o1 A2 w = some r) : R prim 129 #[t0, o1, A2] w = some r := run_body Tryz.func129 (by kernel_rfl) hn (by rw [show anns 129 = f129.ann from rfl, f129.eq]; exact h)
theorem f130.run {prim : Prim} {s0 : Value} {w : World} {r : Value × World} (hn : prim.call 130 #[s0] w = none) (h : f130 (R prim) s0 w = some r) : R prim 130 #[s0] w = some r := run_body Tryz.func130 (by kernel_rfl) hn (by rw [show anns 130 = f130.ann from rfl, f130.eq]; exact h)
theorem f132.run {prim : Prim} {x0 s1 : Value} {w : World} {r : Value × World} (hn : prim.call 132 #[x0, s1] w = none) (h : f132 (R prim) x0 s1 w = some r) : R prim 132 #[x0, s1] w = some r := run_body Tryz.func132 (by kernel_rfl) hn (by rw [show anns 132 = f132.ann from rfl, f132.eq]; exact h)
theorem f133.run {prim : Prim} {at0 v1 : Value} {w : World} {r : Value × World} (hn : prim.call 133 #[at0, v1] w = none) (h : f133 (R prim) at0 v1 w = some r) : R prim 133 #[at0, v1] w = some r := run_body Tryz.func133 (by kernel_rfl) hn (by rw [show anns 133 = f133.ann from rfl, f133.eq]; exact h)
theorem f138.run {prim : Prim} {c0 : Value} {w : World} {r : Value × World} (hn : prim.call 138 #[c0] w = none) (h : f138 (R prim) c0 w = some r) : R prim 138 #[c0] w = some r := run_body Tryz.func138 (by kernel_rfl) hn (by rw [show anns 138 = f138.ann from rfl, f138.eq]; exact h)
theorem f96.run {prim : Prim} {chars0 : Value} {w : World} {r : Value × World} (hn : prim.call 96 #[chars0] w = none) (h : f96 (R prim) chars0 w = some r) : R prim 96 #[chars0] w = some r := run_body Tryz.func96 (by kernel_rfl) hn (by rw [show anns 96 = f96.ann from rfl, f96.eq]; exact h)

/-! ### facts of the types -/
noncomputable def inf (t : Nat) : TypeInfo := (Tryz.prog.info? t).getD default
@[simp] theorem len9 (ty : TypeId) (s : ByteArray) : prun Tryz.prog (Builtin.len_ #[9] ty #[.string s]) = some (.int .i64 s.size) := len_string Tryz.underlying9 ty s
@[simp] theorem len28 (ty : TypeId) (a : Option Addr) (n c : Nat) : prun Tryz.prog (Builtin.len_ #[28] ty #[.slice a n c]) = some (.int .i64 n) := len_slice Tryz.underlying28 ty a n c
@[simp] theorem len62 (ty : TypeId) (a : Option Addr) (n c : Nat) : prun Tryz.prog (Builtin.len_ #[62] ty #[.slice a n c]) = some (.int .i64 n) := len_slice Tryz.underlying62 ty a n c
@[simp] theorem len160 (ty : TypeId) (a : Option Addr) (n c : Nat) : prun Tryz.prog (Builtin.len_ #[160] ty #[.slice a n c]) = some (.int .i64 n) := len_slice Tryz.underlying160 ty a n c
@[simp] theorem ld3 (a : Addr) (w : World) : rrun Tryz.prog (Instr.loadAt 3 (.pointer (some a))) w = w.cell? a := load_one Tryz.underlying3 (by kernel_rfl) a w
@[simp] theorem ld4 (a : Addr) (w : World) : rrun Tryz.prog (Instr.loadAt 4 (.pointer (some a))) w = w.cell? a := load_one Tryz.underlying4 (by kernel_rfl) a w
@[simp] theorem ld5 (a : Addr) (w : World) : rrun Tryz.prog (Instr.loadAt 5 (.pointer (some a))) w = w.cell? a := load_one Tryz.underlying5 (by kernel_rfl) a w
@[simp] theorem ld9 (a : Addr) (w : World) : rrun Tryz.prog (Instr.loadAt 9 (.pointer (some a))) w = w.cell? a := load_one Tryz.underlying9 (by kernel_rfl) a w
@[simp] theorem ld27 (a : Addr) (w : World) : rrun Tryz.prog (Instr.loadAt 27 (.pointer (some a))) w = w.cell? a := load_one Tryz.underlying27 (by kernel_rfl) a w
@[simp] theorem ld28 (a : Addr) (w : World) : rrun Tryz.prog (Instr.loadAt 28 (.pointer (some a))) w = w.cell? a := load_one Tryz.underlying28 (by kernel_rfl) a w
theorem inf30 : Tryz.prog.info? 30 = some (inf 30) := by kernel_rfl
theorem size30 : (inf 30).size = 3 := by kernel_rfl
theorem ld30 {a : Addr} {w : World} {v0 v1 v2 : Value} (h0 : w.cell? (a.add 0) = some v0) (h1 : w.cell? (a.add 1) = some v1) (h2 : w.cell? (a.add 2) = some v2) : rrun Tryz.prog (Instr.loadAt 30 (.pointer (some a))) w = some (.agg #[v0, v1, v2]) := load_agg (vs := [v0, v1, v2]) inf30 (by kernel_rfl) (by rw [size30]; rfl) ⟨h0, h1, h2, trivial⟩
@[simp] theorem ld32 (a : Addr) (w : World) : rrun Tryz.prog (Instr.loadAt 32 (.pointer (some a))) w = w.cell? a := load_one Tryz.underlying32 (by kernel_rfl) a w
theorem inf51 : Tryz.prog.info? 51 = some (inf 51) := by kernel_rfl
theorem size51 : (inf 51).size = 5 := by kernel_rfl
theorem ld51 {a : Addr} {w : World} {v0 v1 v2 v3 v4 : Value} (h0 : w.cell? (a.add 0) = some v0) (h1 : w.cell? (a.add 1) = some v1) (h2 : w.cell? (a.add 2) = some v2) (h3 : w.cell? (a.add 3) = some v3) (h4 : w.cell? (a.add 4) = some v4) : rrun Tryz.prog (Instr.loadAt 51 (.pointer (some a))) w = some (.agg #[v0, v1, v2, v3, v4]) := load_agg (vs := [v0, v1, v2, v3, v4]) inf51 (by kernel_rfl) (by rw [size51]; rfl) ⟨h0, h1, h2, h3, h4, trivial⟩
@[simp] theorem ld62 (a : Addr) (w : World) : rrun Tryz.prog (Instr.loadAt 62 (.pointer (some a))) w = w.cell? a := load_one Tryz.underlying62 (by kernel_rfl) a w
@[simp] theorem ld108 (a : Addr) (w : World) : rrun Tryz.prog (Instr.loadAt 108 (.pointer (some a))) w = w.cell? a := load_one Tryz.underlying108 (by kernel_rfl) a w
theorem inf114 : Tryz.prog.info? 114 = some (inf 114) := by kernel_rfl
theorem size114 : (inf 114).size = 4 := by kernel_rfl
theorem ld114 {a : Addr} {w : World} {v0 v1 v2 v3 : Value} (h0 : w.cell? (a.add 0) = some v0) (h1 : w.cell? (a.add 1) = some v1) (h2 : w.cell? (a.add 2) = some v2) (h3 : w.cell? (a.add 3) = some v3) : rrun Tryz.prog (Instr.loadAt 114 (.pointer (some a))) w = some (.agg #[v0, v1, v2, v3]) := load_agg (vs := [v0, v1, v2, v3]) inf114 (by kernel_rfl) (by rw [size114]; rfl) ⟨h0, h1, h2, h3, trivial⟩
theorem inf137 : Tryz.prog.info? 137 = some (inf 137) := by kernel_rfl
theorem size137 : (inf 137).size = 3 := by kernel_rfl
theorem ld137 {a : Addr} {w : World} {v0 v1 v2 : Value} (h0 : w.cell? (a.add 0) = some v0) (h1 : w.cell? (a.add 1) = some v1) (h2 : w.cell? (a.add 2) = some v2) : rrun Tryz.prog (Instr.loadAt 137 (.pointer (some a))) w = some (.agg #[v0, v1, v2]) := load_agg (vs := [v0, v1, v2]) inf137 (by kernel_rfl) (by rw [size137]; rfl) ⟨h0, h1, h2, trivial⟩
theorem inf145 : Tryz.prog.info? 145 = some (inf 145) := by kernel_rfl
theorem size145 : (inf 145).size = 4 := by kernel_rfl
theorem ld145 {a : Addr} {w : World} {v0 v1 v2 v3 : Value} (h0 : w.cell? (a.add 0) = some v0) (h1 : w.cell? (a.add 1) = some v1) (h2 : w.cell? (a.add 2) = some v2) (h3 : w.cell? (a.add 3) = some v3) : rrun Tryz.prog (Instr.loadAt 145 (.pointer (some a))) w = some (.agg #[v0, v1, v2, v3]) := load_agg (vs := [v0, v1, v2, v3]) inf145 (by kernel_rfl) (by rw [size145]; rfl) ⟨h0, h1, h2, h3, trivial⟩
theorem inf152 : Tryz.prog.info? 152 = some (inf 152) := by kernel_rfl
theorem size152 : (inf 152).size = 2 := by kernel_rfl
theorem ld152 {a : Addr} {w : World} {v0 v1 : Value} (h0 : w.cell? (a.add 0) = some v0) (h1 : w.cell? (a.add 1) = some v1) : rrun Tryz.prog (Instr.loadAt 152 (.pointer (some a))) w = some (.agg #[v0, v1]) := load_agg (vs := [v0, v1]) inf152 (by kernel_rfl) (by rw [size152]; rfl) ⟨h0, h1, trivial⟩
theorem inf175 : Tryz.prog.info? 175 = some (inf 175) := by kernel_rfl
theorem size175 : (inf 175).size = 256 := by kernel_rfl
theorem inf3 : Tryz.prog.info? 3 = some (inf 3) := by kernel_rfl
theorem size3 : (inf 3).size = 1 := by kernel_rfl
theorem st3 {a : Addr} {w : World} {v u : Value} (hv : v.cells = #[v]) (ho : v.oneCell' = true) (hc : w.cell? a = some u) (hf : w.frozen? a = false) : erun Tryz.prog (Instr.storeAt 3 (.pointer (some a)) v) w = some ((), w.setCell a v) := store_one inf3 size3 hv ho hc hf
theorem inf4 : Tryz.prog.info? 4 = some (inf 4) := by kernel_rfl
theorem size4 : (inf 4).size = 1 := by kernel_rfl
theorem st4 {a : Addr} {w : World} {v u : Value} (hv : v.cells = #[v]) (ho : v.oneCell' = true) (hc : w.cell? a = some u) (hf : w.frozen? a = false) : erun Tryz.prog (Instr.storeAt 4 (.pointer (some a)) v) w = some ((), w.setCell a v) := store_one inf4 size4 hv ho hc hf
theorem inf9 : Tryz.prog.info? 9 = some (inf 9) := by kernel_rfl
theorem size9 : (inf 9).size = 1 := by kernel_rfl
theorem st9 {a : Addr} {w : World} {v u : Value} (hv : v.cells = #[v]) (ho : v.oneCell' = true) (hc : w.cell? a = some u) (hf : w.frozen? a = false) : erun Tryz.prog (Instr.storeAt 9 (.pointer (some a)) v) w = some ((), w.setCell a v) := store_one inf9 size9 hv ho hc hf
theorem inf28 : Tryz.prog.info? 28 = some (inf 28) := by kernel_rfl
theorem size28 : (inf 28).size = 1 := by kernel_rfl
theorem st28 {a : Addr} {w : World} {v u : Value} (hv : v.cells = #[v]) (ho : v.oneCell' = true) (hc : w.cell? a = some u) (hf : w.frozen? a = false) : erun Tryz.prog (Instr.storeAt 28 (.pointer (some a)) v) w = some ((), w.setCell a v) := store_one inf28 size28 hv ho hc hf
theorem inf62 : Tryz.prog.info? 62 = some (inf 62) := by kernel_rfl
theorem size62 : (inf 62).size = 1 := by kernel_rfl
theorem st62 {a : Addr} {w : World} {v u : Value} (hv : v.cells = #[v]) (ho : v.oneCell' = true) (hc : w.cell? a = some u) (hf : w.frozen? a = false) : erun Tryz.prog (Instr.storeAt 62 (.pointer (some a)) v) w = some ((), w.setCell a v) := store_one inf62 size62 hv ho hc hf
@[simp] theorem fa30_0 (a : Addr) : prun Tryz.prog (Instr.fieldAt 30 (.pointer (some a)) 0) = some (.pointer (some (a.add 0))) := id (by kernel_rfl)
@[simp] theorem fa30_1 (a : Addr) : prun Tryz.prog (Instr.fieldAt 30 (.pointer (some a)) 1) = some (.pointer (some (a.add 1))) := id (by kernel_rfl)
@[simp] theorem fa30_2 (a : Addr) : prun Tryz.prog (Instr.fieldAt 30 (.pointer (some a)) 2) = some (.pointer (some (a.add 2))) := id (by kernel_rfl)
@[simp] theorem fa51_0 (a : Addr) : prun Tryz.prog (Instr.fieldAt 51 (.pointer (some a)) 0) = some (.pointer (some (a.add 0))) := id (by kernel_rfl)
@[simp] theorem fa51_1 (a : Addr) : prun Tryz.prog (Instr.fieldAt 51 (.pointer (some a)) 1) = some (.pointer (some (a.add 1))) := id (by kernel_rfl)
@[simp] theorem fa51_2 (a : Addr) : prun Tryz.prog (Instr.fieldAt 51 (.pointer (some a)) 2) = some (.pointer (some (a.add 2))) := id (by kernel_rfl)
@[simp] theorem fa51_3 (a : Addr) : prun Tryz.prog (Instr.fieldAt 51 (.pointer (some a)) 3) = some (.pointer (some (a.add 3))) := id (by kernel_rfl)
@[simp] theorem fa51_4 (a : Addr) : prun Tryz.prog (Instr.fieldAt 51 (.pointer (some a)) 4) = some (.pointer (some (a.add 4))) := id (by kernel_rfl)
@[simp] theorem fa64_0 (a : Addr) : prun Tryz.prog (Instr.fieldAt 64 (.pointer (some a)) 0) = some (.pointer (some (a.add 0))) := id (by kernel_rfl)
@[simp] theorem fa64_1 (a : Addr) : prun Tryz.prog (Instr.fieldAt 64 (.pointer (some a)) 1) = some (.pointer (some (a.add 1))) := id (by kernel_rfl)
@[simp] theorem fa114_0 (a : Addr) : prun Tryz.prog (Instr.fieldAt 114 (.pointer (some a)) 0) = some (.pointer (some (a.add 0))) := id (by kernel_rfl)
@[simp] theorem fa114_1 (a : Addr) : prun Tryz.prog (Instr.fieldAt 114 (.pointer (some a)) 1) = some (.pointer (some (a.add 1))) := id (by kernel_rfl)
@[simp] theorem fa114_2 (a : Addr) : prun Tryz.prog (Instr.fieldAt 114 (.pointer (some a)) 2) = some (.pointer (some (a.add 2))) := id (by kernel_rfl)
@[simp] theorem fa114_3 (a : Addr) : prun Tryz.prog (Instr.fieldAt 114 (.pointer (some a)) 3) = some (.pointer (some (a.add 3))) := id (by kernel_rfl)
@[simp] theorem fa145_0 (a : Addr) : prun Tryz.prog (Instr.fieldAt 145 (.pointer (some a)) 0) = some (.pointer (some (a.add 0))) := id (by kernel_rfl)
@[simp] theorem fa145_3 (a : Addr) : prun Tryz.prog (Instr.fieldAt 145 (.pointer (some a)) 3) = some (.pointer (some (a.add 3))) := id (by kernel_rfl)
@[simp] theorem fa152_0 (a : Addr) : prun Tryz.prog (Instr.fieldAt 152 (.pointer (some a)) 0) = some (.pointer (some (a.add 0))) := id (by kernel_rfl)
@[simp] theorem fa152_1 (a : Addr) : prun Tryz.prog (Instr.fieldAt 152 (.pointer (some a)) 1) = some (.pointer (some (a.add 1))) := id (by kernel_rfl)
theorem ix28 (a : Addr) (n c : Nat) (k : IntKind) (j : Int) (h0 : 0 ≤ j) (h1 : j < n) : prun Tryz.prog (Instr.indexAt 28 (.slice (some a) n c) (.int k j)) = some (.pointer (some (a.add (j.toNat * 5)))) := by
  have h := index_slice Tryz.underlying28 inf51 a n c k j h0 h1
  rwa [size51] at h
theorem ix62 (a : Addr) (n c : Nat) (k : IntKind) (j : Int) (h0 : 0 ≤ j) (h1 : j < n) : prun Tryz.prog (Instr.indexAt 62 (.slice (some a) n c) (.int k j)) = some (.pointer (some (a.add (j.toNat * 4)))) := by
  have h := index_slice Tryz.underlying62 inf114 a n c k j h0 h1
  rwa [size114] at h
theorem inf5 : Tryz.prog.info? 5 = some (inf 5) := by kernel_rfl
theorem size5 : (inf 5).size = 1 := by kernel_rfl
theorem ix160 (a : Addr) (n c : Nat) (k : IntKind) (j : Int) (h0 : 0 ≤ j) (h1 : j < n) : prun Tryz.prog (Instr.indexAt 160 (.slice (some a) n c) (.int k j)) = some (.pointer (some (a.add (j.toNat * 1)))) := by
  have h := index_slice Tryz.underlying160 inf5 a n c k j h0 h1
  rwa [size5] at h
theorem sl28 (a : Option Addr) (n c : Nat) (lo hi mx : Option Value) (l h m : Nat) (hb : prun Tryz.prog (Instr.sliceBounds true n c lo hi mx) = some (l, h, m)) : prun Tryz.prog (Instr.sliceAt 28 (.slice a n c) lo hi mx) = some (.slice (if m = l then a else a.map (·.add (l * 5))) (h - l) (m - l)) := by
  have h := slice_at Tryz.underlying28 inf51 a n c lo hi mx l h m hb
  rwa [size51] at h
theorem sl62 (a : Option Addr) (n c : Nat) (lo hi mx : Option Value) (l h m : Nat) (hb : prun Tryz.prog (Instr.sliceBounds true n c lo hi mx) = some (l, h, m)) : prun Tryz.prog (Instr.sliceAt 62 (.slice a n c) lo hi mx) = some (.slice (if m = l then a else a.map (·.add (l * 4))) (h - l) (m - l)) := by
  have h := slice_at Tryz.underlying62 inf114 a n c lo hi mx l h m hb
  rwa [size114] at h
theorem zero51 : (inf 51).zero = some (.agg #[(.string ⟨#[]⟩), (.int .i64 0), (.int .i64 0), (.int .i64 0), (.string ⟨#[]⟩)]) := by kernel_rfl
theorem bytes51 : (inf 51).bytes = 56 := id (by kernel_rfl)
theorem ap28 {w : World} {base : Nat} {ty : TypeId} {v : Value} {n : Nat} {xs : List Value} (hown : w.ownsRow base 51 5 v n xs) {A : Option Addr} {m c : Nat} {news : List Value} (hl : news.length = m * 5) (hr : Rd w A news) (hnil : A = none → c = 0) (h1 : ∀ u ∈ news, u.oneCell' = true) (h63 : n + m ≤ maxLen) (hbytes : (n + m) * 56 ≤ 140737488355328) (hbase : base ≤ w.heap.size) :
    ∃ v' w', erun Tryz.prog (Builtin.append_ #[28, 28] ty #[v, .slice A m c]) w = some (v', w') ∧ w'.ownsRow base 51 5 v' (n + m) (xs ++ news) ∧ w.grownBy w' v.ownBlock := e_append Tryz.underlying28 inf51 zero51 size51 bytes51 rfl (by decide) hown hl hr hnil h1 h63 hbytes hbase
theorem inf91 : Tryz.prog.info? 91 = some (inf 91) := by kernel_rfl
theorem size91 : (inf 91).size = 1 := by kernel_rfl
theorem zero91 : (inf 91).zero = some (.slice none 0 0) := by kernel_rfl
theorem bytes91 : (inf 91).bytes = 24 := id (by kernel_rfl)
theorem ap45 {w : World} {base : Nat} {ty : TypeId} {v : Value} {n : Nat} {xs : List Value} (hown : w.ownsRow base 91 1 v n xs) {A : Option Addr} {m c : Nat} {news : List Value} (hl : news.length = m * 1) (hr : Rd w A news) (hnil : A = none → c = 0) (h1 : ∀ u ∈ news, u.oneCell' = true) (h63 : n + m ≤ maxLen) (hbytes : (n + m) * 24 ≤ 140737488355328) (hbase : base ≤ w.heap.size) :
    ∃ v' w', erun Tryz.prog (Builtin.append_ #[45, 45] ty #[v, .slice A m c]) w = some (v', w') ∧ w'.ownsRow base 91 1 v' (n + m) (xs ++ news) ∧ w.grownBy w' v.ownBlock := e_append Tryz.underlying45 inf91 zero91 size91 bytes91 rfl (by decide) hown hl hr hnil h1 h63 hbytes hbase
theorem zero114 : (inf 114).zero = some (.agg #[(.int .i64 0), (.string ⟨#[]⟩), (.bool false), (.bool false)]) := by kernel_rfl
theorem bytes114 : (inf 114).bytes = 32 := id (by kernel_rfl)
theorem ap62 {w : World} {base : Nat} {ty : TypeId} {v : Value} {n : Nat} {xs : List Value} (hown : w.ownsRow base 114 4 v n xs) {A : Option Addr} {m c : Nat} {news : List Value} (hl : news.length = m * 4) (hr : Rd w A news) (hnil : A = none → c = 0) (h1 : ∀ u ∈ news, u.oneCell' = true) (h63 : n + m ≤ maxLen) (hbytes : (n + m) * 32 ≤ 140737488355328) (hbase : base ≤ w.heap.size) :
    ∃ v' w', erun Tryz.prog (Builtin.append_ #[62, 62] ty #[v, .slice A m c]) w = some (v', w') ∧ w'.ownsRow base 114 4 v' (n + m) (xs ++ news) ∧ w.grownBy w' v.ownBlock := e_append Tryz.underlying62 inf114 zero114 size114 bytes114 rfl (by decide) hown hl hr hnil h1 h63 hbytes hbase
theorem zero9 : (inf 9).zero = some (.string ⟨#[]⟩) := by kernel_rfl
theorem bytes9 : (inf 9).bytes = 16 := id (by kernel_rfl)
theorem ap91 {w : World} {base : Nat} {ty : TypeId} {v : Value} {n : Nat} {xs : List Value} (hown : w.ownsRow base 9 1 v n xs) {A : Option Addr} {m c : Nat} {news : List Value} (hl : news.length = m * 1) (hr : Rd w A news) (hnil : A = none → c = 0) (h1 : ∀ u ∈ news, u.oneCell' = true) (h63 : n + m ≤ maxLen) (hbytes : (n + m) * 16 ≤ 140737488355328) (hbase : base ≤ w.heap.size) :
    ∃ v' w', erun Tryz.prog (Builtin.append_ #[91, 91] ty #[v, .slice A m c]) w = some (v', w') ∧ w'.ownsRow base 9 1 v' (n + m) (xs ++ news) ∧ w.grownBy w' v.ownBlock := e_append Tryz.underlying91 inf9 zero9 size9 bytes9 rfl (by decide) hown hl hr hnil h1 h63 hbytes hbase
theorem zero5 : (inf 5).zero = some (.int .u8 0) := by kernel_rfl
theorem bytes5 : (inf 5).bytes = 1 := id (by kernel_rfl)
theorem ap160 {w : World} {base : Nat} {ty : TypeId} {v : Value} {n : Nat} {xs : List Value} (hown : w.ownsRow base 5 1 v n xs) {A : Option Addr} {m c : Nat} {news : List Value} (hl : news.length = m * 1) (hr : Rd w A news) (hnil : A = none → c = 0) (h1 : ∀ u ∈ news, u.oneCell' = true) (h63 : n + m ≤ maxLen) (hbytes : (n + m) * 1 ≤ 140737488355328) (hbase : base ≤ w.heap.size) :
    ∃ v' w', erun Tryz.prog (Builtin.append_ #[160, 160] ty #[v, .slice A m c]) w = some (v', w') ∧ w'.ownsRow base 5 1 v' (n + m) (xs ++ news) ∧ w.grownBy w' v.ownBlock := e_append Tryz.underlying160 inf5 zero5 size5 bytes5 rfl (by decide) hown hl hr hnil h1 h63 hbytes hbase
theorem mk160 {w : World} (base : Nat) (n : Nat) (hbytes : 1 * n ≤ 281474976710656) (h63 : n ≤ maxLen) (hbase : base ≤ w.heap.size) :
    ∃ w', erun Tryz.prog (Instr.makeSlice 160 (.int .i64 (n : Int)) (.int .i64 (n : Int))) w = some (.slice (some ⟨w.heap.size, 0, none⟩) n n, w') ∧ w'.ownsRow base 5 1 (.slice (some ⟨w.heap.size, 0, none⟩) n n) n (madeCells ((.int .u8 0) : Value).cells (n * 1)).toList ∧ w.grownBy w' none := e_make Tryz.underlying160 inf5 zero5 size5 .i64 .i64 n (by rw [bytes5]; exact hbytes) h63 hbase
@[simp] theorem bs28_0 (w : World) : erun Tryz.prog (Instr.buildSlice 28 0 #[]) w = some (.slice (some ⟨w.heap.size, 0, none⟩) 0 0, w.alloc (.cells #[] 51)) := id (by kernel_rfl)
@[simp] theorem bs45_0 (w : World) : erun Tryz.prog (Instr.buildSlice 45 0 #[]) w = some (.slice (some ⟨w.heap.size, 0, none⟩) 0 0, w.alloc (.cells #[] 91)) := id (by kernel_rfl)
@[simp] theorem bs62_0 (w : World) : erun Tryz.prog (Instr.buildSlice 62 0 #[]) w = some (.slice (some ⟨w.heap.size, 0, none⟩) 0 0, w.alloc (.cells #[] 114)) := id (by kernel_rfl)
@[simp] theorem bs91_0 (w : World) : erun Tryz.prog (Instr.buildSlice 91 0 #[]) w = some (.slice (some ⟨w.heap.size, 0, none⟩) 0 0, w.alloc (.cells #[] 9)) := id (by kernel_rfl)
@[simp] theorem bs160_0 (w : World) : erun Tryz.prog (Instr.buildSlice 160 0 #[]) w = some (.slice (some ⟨w.heap.size, 0, none⟩) 0 0, w.alloc (.cells #[] 5)) := id (by kernel_rfl)
theorem tx160_9 {w : World} {A : Option Addr} {c : Nat} {l : List UInt8} {n : Nat} (hn : l.length = n) (hr : Rd w A (bv l)) : rrun Tryz.prog (convert 160 9 (.slice A n c)) w = some (.string ⟨l.toArray⟩) := e_text Tryz.underlying160 Tryz.underlying5 Tryz.underlying9 hn hr
@[simp] theorem eql9_s (x y : Operand) (a b : ByteArray) : prun Tryz.prog (do eqGuard .eql 9 x y (.string a) (.string b); binOp .eql 9 (.string a) (.string b)) = some (.bool (a.toList == b.toList)) := id (by kernel_rfl)
@[simp] theorem eql20_some (x y : Operand) (u : TypeId) (v : Value) (w : World) : rrun Tryz.prog (do eqGuard .eql 20 x y (.iface u v) .nilIface; binOp .eql 20 (.iface u v) .nilIface) w = some (.bool false) := id (by kernel_rfl)
@[simp] theorem eql20_none (x : Operand) (c : Value) (w : World) : rrun Tryz.prog (do eqGuard .eql 20 x (.const c) .nilIface .nilIface; binOp .eql 20 .nilIface .nilIface) w = some (.bool true) := id (by cases x <;> kernel_rfl)
@[simp] theorem neq4_b (x y : Operand) (a b : Bool) : prun Tryz.prog (do eqGuard .neq 4 x y (.bool a) (.bool b); binOp .neq 4 (.bool a) (.bool b)) = some (.bool (!(a == b))) := id (by kernel_rfl)
@[simp] theorem neq9_s (x y : Operand) (a b : ByteArray) : prun Tryz.prog (do eqGuard .neq 9 x y (.string a) (.string b); binOp .neq 9 (.string a) (.string b)) = some (.bool !(a.toList == b.toList)) := id (by kernel_rfl)
theorem eqf51 (a0 b0 : ByteArray) (a1 b1 : Int) (a2 b2 : Int) (a3 b3 : Int) (a4 b4 : ByteArray) (w : World) : rrun Tryz.prog (Op.eqFields 9999 #[(.string a0), (.int .i64 a1), (.int .i64 a2), (.int .i64 a3), (.string a4)] #[(.string b0), (.int .i64 b1), (.int .i64 b2), (.int .i64 b3), (.string b4)] (Tryz.prog.fieldsOf 51).toList) w = some ((a0.toList == b0.toList) && (a1 == b1 && (a2 == b2 && (a3 == b3 && ((a4.toList == b4.toList) && true))))) := by
  simp only [Program.fieldsOf, Tryz.underlying51]
  exact (rr_eqFields_cons w 9999 _ _ _ _ _ _ _ _ (by decide) (by kernel_rfl) (by kernel_rfl) (rr_equalIn_string w 9998 9 a0 b0 Tryz.underlying9) (rr_eqFields_cons w 9999 _ _ _ _ _ _ _ _ (by decide) (by kernel_rfl) (by kernel_rfl) (rr_equalIn_int w 9998 3 .i64 .i64 a1 b1 Tryz.underlying3) (rr_eqFields_cons w 9999 _ _ _ _ _ _ _ _ (by decide) (by kernel_rfl) (by kernel_rfl) (rr_equalIn_int w 9998 3 .i64 .i64 a2 b2 Tryz.underlying3) (rr_eqFields_cons w 9999 _ _ _ _ _ _ _ _ (by decide) (by kernel_rfl) (by kernel_rfl) (rr_equalIn_int w 9998 3 .i64 .i64 a3 b3 Tryz.underlying3) (rr_eqFields_cons w 9999 _ _ _ _ _ _ _ _ (by decide) (by kernel_rfl) (by kernel_rfl) (rr_equalIn_string w 9998 9 a4 b4 Tryz.underlying9) (rr_eqFields_nil w 9999 _ _))))))
@[simp] theorem neq51_st (x y : Operand) (a0 b0 : ByteArray) (a1 b1 : Int) (a2 b2 : Int) (a3 b3 : Int) (a4 b4 : ByteArray) (w : World) : rrun Tryz.prog (do eqGuard .neq 51 x y (.agg #[(.string a0), (.int .i64 a1), (.int .i64 a2), (.int .i64 a3), (.string a4)]) (.agg #[(.string b0), (.int .i64 b1), (.int .i64 b2), (.int .i64 b3), (.string b4)]); binOp .neq 51 (.agg #[(.string a0), (.int .i64 a1), (.int .i64 a2), (.int .i64 a3), (.string a4)]) (.agg #[(.string b0), (.int .i64 b1), (.int .i64 b2), (.int .i64 b3), (.string b4)])) w = some (.bool (!((a0.toList == b0.toList) && a1 == b1 && a2 == b2 && a3 == b3 && (a4.toList == b4.toList)))) := by
  have h := rr_neq (P := Tryz.prog) w 51 x y #[(.string a0), (.int .i64 a1), (.int .i64 a2), (.int .i64 a3), (.string a4)] #[(.string b0), (.int .i64 b1), (.int .i64 b2), (.int .i64 b3), (.string b4)] _ (by kernel_rfl) (by kernel_rfl) (by kernel_rfl) (eqf51 a0 b0 a1 b1 a2 b2 a3 b3 a4 b4 w)
  simpa only [Bool.and_true, Bool.and_assoc] using h
@[simp] theorem mi9 (x : Value) : prun Tryz.prog (Instr.makeInterface 9 x) = some (.iface 9 x) := id (by kernel_rfl)
@[simp] theorem mi35 (x : Value) : prun Tryz.prog (Instr.makeInterface 35 x) = some (.iface 35 x) := id (by kernel_rfl)
@[simp] theorem mi82 (x : Value) : prun Tryz.prog (Instr.makeInterface 82 x) = some (.iface 82 x) := id (by kernel_rfl)
@[simp] theorem mi85 (x : Value) : prun Tryz.prog (Instr.makeInterface 85 x) = some (.iface 85 x) := id (by kernel_rfl)
@[simp] theorem mi99 (x : Value) : prun Tryz.prog (Instr.makeInterface 99 x) = some (.iface 99 x) := id (by kernel_rfl)
@[simp] theorem mi198 (x : Value) : prun Tryz.prog (Instr.makeInterface 198 x) = some (.iface 198 x) := id (by kernel_rfl)
@[simp] theorem mi201 (x : Value) : prun Tryz.prog (Instr.makeInterface 201 x) = some (.iface 201 x) := id (by kernel_rfl)
end Go.Sh.YtkghbcadnbojgaaGreatDoor

