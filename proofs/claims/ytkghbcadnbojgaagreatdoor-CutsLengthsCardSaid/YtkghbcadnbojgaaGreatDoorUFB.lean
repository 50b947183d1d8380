/- The functions of the seat's program as plain ones over the layer 'Sh', written by a program of this session's own; no condition. -/
import Derived.Test.YtkghbcadnbojgaaGreatDoorUFA
namespace Go.Sh.YtkghbcadnbojgaaGreatDoor
open Go Go.Proofs
set_option linter.unusedVariables false
set_option maxRecDepth 100000

/-- dailies/dailiesref18.placed -/
def f85.ann : Ann := (.s .z (.s .z (.s (.s .z (.b [] (.l [0, 1, 7, 8] (.s (.s .z (.c .z .z)) (.s (.b [0, 1, 7, 8] (.s .z (.s .z (.s (.s .z (.c (.s .z .z) .z)) .z)))) .z))))) (.s .z .z))))
noncomputable def f85.l0 (call : CallF) (vs : List Value) (W1 : World) : Option Res :=
  let r0_1 := nth vs 0
  let n1_1 := nth vs 1
  let out7 := nth vs 2
  let m8 := nth vs 3
  (bin .lss m8 (Value.int IntKind.i64 1440)).bind fun v11 =>
  (asB v11).bind fun c11 =>
  if c11 then
    ((call 108 #[r0_1, m8] W1).bind fun r17 =>
    (bin .add out7 r17.1).bind fun v18 =>
    (call 87 #[r0_1] r17.2).bind fun r20 =>
    (bin .mul (Value.int IntKind.i64 60) r20.1).bind fun v21 =>
    (call 108 #[r0_1, m8] r20.2).bind fun r24 =>
    (bin .sub v21 r24.1).bind fun v25 =>
    (bin .lss n1_1 v25).bind fun v28 =>
    (asB v28).bind fun c28 =>
    if c28 then
      (call 108 #[r0_1, m8] r24.2).bind fun r33 =>
      (bin .add n1_1 r33.1).bind fun v34 =>
      some (Res.ret [m8, v34, v18] r33.2)
    else
    (bin .sub n1_1 v25).bind fun v38 =>
    some (Res.norm [r0_1, v38, v18, m8] r24.2)).bind fun (r : Res) => (r.unblock 1).cont fun vs_1 W2 =>
    let r0_2 := nth vs_1 0
    let n1_2 := nth vs_1 1
    let out7_1 := nth vs_1 2
    let m8_1 := nth vs_1 3
    (bin .add m8_1 (Value.int IntKind.i64 1)).bind fun v13 =>
    some (Res.norm [r0_2, n1_2, out7_1, v13] W2)
  else
  some (Res.exit 0 [] W1)
noncomputable def f85 (call : CallF) (r0 : Value) (n1 : Value) (W0 : World) : Option (Value × World) :=
  ((iter (f85.l0 call) [r0, n1, (Value.int IntKind.i64 0), (Value.int IntKind.i64 0)] W0).bind fun (r : Res) => (r.unblock 0).cont fun vs_2 W3 =>
  some (Res.ret [(Value.int IntKind.i64 0), (Value.int IntKind.i64 0), (Value.int IntKind.i64 0)] W3)).bind Res.done
theorem f85.eq (call dfr : CallF) (r0 : Value) (n1 : Value) (W0 : World) : aFun Tryz.prog call dfr Tryz.f85 f85.ann (ofArgs #[r0, n1]) W0 = f85 call r0 n1 W0 := by kernel_rfl

/-- dailies/dailiesref18.two -/
def f86.ann : Ann := (.s .z (.s .z .z))
noncomputable def f86 (call : CallF) (n0 : Value) (W0 : World) : Option (Value × World) :=
  ((bin .quo n0 (Value.int IntKind.i64 10)).bind fun v4 =>
  (bin .add (Value.int IntKind.i64 48) v4).bind fun v5 =>
  (prun Tryz.prog (convert 3 5 v5)).bind fun v6 =>
  (bin .rem n0 (Value.int IntKind.i64 10)).bind fun v8 =>
  (bin .add (Value.int IntKind.i64 48) v8).bind fun v9 =>
  (prun Tryz.prog (convert 3 5 v9)).bind fun v10 =>
  (erun Tryz.prog (Instr.buildSlice 160 2 #[(0, v6), (1, v10)]) W0).bind fun r11 =>
  (rrun Tryz.prog (convert 160 9 r11.1) r11.2).bind fun v12 =>
  some (Res.ret [v12] r11.2)).bind Res.done
theorem f86.eq (call dfr : CallF) (n0 : Value) (W0 : World) : aFun Tryz.prog call dfr Tryz.f86 f86.ann (ofArgs #[n0]) W0 = f86 call n0 W0 := by kernel_rfl

/-- dailies/dailiesref18.count -/
def f87.ann : Ann := (.s .z (.s (.s .z (.b [] (.s .z (.c (.s .z .z) (.s .z (.c (.s .z .z) (.s .z (.c (.s .z .z) (.s (.s .z (.j [10] .z .z)) (.c (.s .z .z) .z)))))))))) (.s .z .z)))
noncomputable def f87 (call : CallF) (r0 : Value) (W0 : World) : Option (Value × World) :=
  (((bin .eql r0 (Value.int IntKind.i64 1)).bind fun v5 =>
  (asB v5).bind fun c4 =>
  if c4 then
    some (Res.ret [(Value.int IntKind.i64 24)] W0)
  else
  (bin .eql r0 (Value.int IntKind.i64 2)).bind fun v7 =>
  (asB v7).bind fun c6 =>
  if c6 then
    some (Res.ret [(Value.int IntKind.i64 25)] W0)
  else
  (bin .eql r0 (Value.int IntKind.i64 5)).bind fun v9 =>
  (asB v9).bind fun c8 =>
  if c8 then
    some (Res.ret [(Value.int IntKind.i64 50)] W0)
  else
  (bin .eql r0 (Value.int IntKind.i64 6)).bind fun v11 =>
  (asB v11).bind fun c10 =>
  (if c10 then
    some (Res.norm [v11] W0)
   else
    (bin .eql r0 (Value.int IntKind.i64 7)).bind fun v12 =>
    some (Res.norm [v12] W0)).bind fun (r : Res) => r.cont fun vs W1 =>
  let v10 := nth vs 0
  (asB v10).bind fun c10_1 =>
  if c10_1 then
    some (Res.ret [(Value.int IntKind.i64 60)] W1)
  else
  some (Res.norm [] W1)).bind fun (r : Res) => (r.unblock 0).cont fun vs_1 W2 =>
  some (Res.ret [(Value.int IntKind.i64 30)] W2)).bind Res.done
theorem f87.eq (call dfr : CallF) (r0 : Value) (W0 : World) : aFun Tryz.prog call dfr Tryz.f87 f87.ann (ofArgs #[r0]) W0 = f87 call r0 W0 := by kernel_rfl

/-- dailies/dailiesref18.behind -/
def f88.ann : Ann := (.s .z (.s (.s .z (.c (.s .z .z) .z)) (.s .z .z)))
noncomputable def f88 (call : CallF) (r0 : Value) (W0 : World) : Option (Value × World) :=
  ((call 108 #[r0, (Value.int IntKind.i64 1)] W0).bind fun r4 =>
  (bin .gtr r4.1 (Value.int IntKind.i64 0)).bind fun v5 =>
  (asB v5).bind fun c5 =>
  if c5 then
    some (Res.ret [(Value.string { data := #[59] })] r4.2)
  else
  some (Res.ret [(Value.string { data := #[58] })] r4.2)).bind Res.done
theorem f88.eq (call dfr : CallF) (r0 : Value) (W0 : World) : aFun Tryz.prog call dfr Tryz.f88 f88.ann (ofArgs #[r0]) W0 = f88 call r0 W0 := by kernel_rfl

/-- unicode/utf8.AppendRune -/
def f89.ann : Ann := (.s .z (.s (.s .z (.c (.s .z .z) .z)) (.s .z .z)))
noncomputable def f89 (call : CallF) (p0 : Value) (r1 : Value) (W0 : World) : Option (Value × World) :=
  ((prun Tryz.prog (convert 21 190 r1)).bind fun v6 =>
  (bin .leq v6 (Value.int IntKind.u32 127)).bind fun v7 =>
  (asB v7).bind fun c7 =>
  if c7 then
    (prun Tryz.prog (convert 21 5 r1)).bind fun v10 =>
    (erun Tryz.prog (Instr.buildSlice 160 1 #[(0, v10)]) W0).bind fun r11 =>
    (erun Tryz.prog (Builtin.append_ #[160, 160] 160 #[p0, r11.1]) r11.2).bind fun r12 =>
    some (Res.ret [r12.1] r12.2)
  else
  (call 109 #[p0, r1] W0).bind fun r15 =>
  some (Res.ret [r15.1] r15.2)).bind Res.done
theorem f89.eq (call dfr : CallF) (p0 : Value) (r1 : Value) (W0 : World) : aFun Tryz.prog call dfr Tryz.f89 f89.ann (ofArgs #[p0, r1]) W0 = f89 call p0 r1 W0 := by kernel_rfl

/-- dailies/timecode.Name -/
def f90.ann : Ann := (.s .z (.s .z (.s (.s .z (.c (.s .z .z) .z)) (.s .z (.s .z (.s .z (.s .z (.s .z (.s .z .z)))))))))
noncomputable def f90 (call : CallF) (r0 : Value) (n1 : Value) (W0 : World) : Option (Value × World) :=
  ((call 110 #[r0, n1] W0).bind fun r14 =>
  (prun Tryz.prog (Instr.extract r14.1 0)).bind fun v15 =>
  (prun Tryz.prog (Instr.extract r14.1 1)).bind fun v16 =>
  (erun Tryz.prog (Instr.alloc 145 true (.tuple #[])) r14.2).bind fun r6 =>
  (erun Tryz.prog (Instr.storeAt 145 r6.1 v15) r6.2).bind fun r =>
  (bin .neq v16 (Value.int IntKind.i64 0)).bind fun v18 =>
  (asB v18).bind fun c18 =>
  if c18 then
    some (Res.ret [(Value.string { data := #[] }), v16] r.2)
  else
  (rrun Tryz.prog (Instr.loadAt 145 r6.1) r.2).bind fun v21 =>
  (call 111 #[v21, n1] r.2).bind fun r23 =>
  (bin .add n1 r23.1).bind fun v24 =>
  (prun Tryz.prog (Instr.fieldAt 145 r6.1 0)).bind fun v26 =>
  (rrun Tryz.prog (Instr.loadAt 3 v26) r23.2.drew).bind fun v27 =>
  (bin .rem v24 v27).bind fun v28 =>
  (prun Tryz.prog (Instr.fieldAt 145 r6.1 0)).bind fun v30 =>
  (rrun Tryz.prog (Instr.loadAt 3 v30) r23.2.drew).bind fun v31 =>
  (bin .quo v24 v31).bind fun v32 =>
  (bin .quo v32 (Value.int IntKind.i64 3600)).bind fun v34 =>
  (call 112 #[(Value.slice none 0 0), v34] r23.2.drew).bind fun r35 =>
  (erun Tryz.prog (Instr.buildSlice 160 1 #[(0, (Value.int IntKind.u8 58))]) r35.2).bind fun r36 =>
  (erun Tryz.prog (Builtin.append_ #[160, 160] 160 #[r35.1, r36.1]) r36.2).bind fun r37 =>
  (bin .quo v32 (Value.int IntKind.i64 60)).bind fun v40 =>
  (bin .rem v40 (Value.int IntKind.i64 60)).bind fun v41 =>
  (call 112 #[r37.1, v41] r37.2).bind fun r42 =>
  (erun Tryz.prog (Instr.buildSlice 160 1 #[(0, (Value.int IntKind.u8 58))]) r42.2).bind fun r43 =>
  (erun Tryz.prog (Builtin.append_ #[160, 160] 160 #[r42.1, r43.1]) r43.2).bind fun r44 =>
  ((bin .rem v32 (Value.int IntKind.i64 60)).bind fun v47 =>
  some (v47, r44.2.drew)).bind fun r47 =>
  ((call 112 #[r44.1, r47.1] r47.2).bind fun r48_1 =>
  some (r48_1.1, r48_1.2)).bind fun r48 =>
  ((rrun Tryz.prog (Instr.loadAt 145 r6.1) r48.2).bind fun v49 =>
  some (v49, r48.2)).bind fun r49 =>
  ((call 113 #[r49.1] r49.2).bind fun r50_1 =>
  some (r50_1.1, r50_1.2)).bind fun r50 =>
  ((erun Tryz.prog (Instr.buildSlice 160 1 #[(0, r50.1)]) r50.2).bind fun r51_1 =>
  some (r51_1.1, r51_1.2)).bind fun r51 =>
  ((erun Tryz.prog (Builtin.append_ #[160, 160] 160 #[r48.1, r51.1]) r51.2).bind fun r52_1 =>
  some (r52_1.1, r52_1.2)).bind fun r52 =>
  chkThen ((((rrun Tryz.prog (Instr.loadAt 145 r6.1) r47.2).bind fun v49_1 => some v49_1) = some r49.1 ∧ ((rrun Tryz.prog (Instr.loadAt 145 r6.1) r48.2).bind fun v49_2 => some v49_2) = some r49.1) ∧ True)
  ((call 112 #[r52.1, v28] r52.2).bind fun r55 =>
  (rrun Tryz.prog (convert 160 9 r55.1) r55.2).bind fun v56 =>
  some (Res.ret [v56, (Value.int IntKind.i64 0)] r55.2))).bind Res.done
theorem f90.eq (call dfr : CallF) (r0 : Value) (n1 : Value) (W0 : World) : aFun Tryz.prog call dfr Tryz.f90 f90.ann (ofArgs #[r0, n1]) W0 = f90 call r0 n1 W0 := by kernel_rfl

/-- strconv.Itoa -/
def f91.ann : Ann := (.s .z (.s .z .z))
noncomputable def f91 (call : CallF) (i0 : Value) (W0 : World) : Option (Value × World) :=
  ((call 114 #[i0] W0).bind fun r4 =>
  some (Res.ret [r4.1] r4.2)).bind Res.done
theorem f91.eq (call dfr : CallF) (i0 : Value) (W0 : World) : aFun Tryz.prog call dfr Tryz.f91 f91.ann (ofArgs #[i0]) W0 = f91 call i0 W0 := by kernel_rfl

/-- unicode/utf8.decodeRuneInStringSlow -/
def f92.ann : Ann := (.s .z (.s .z (.s (.s .z (.c (.s .z .z) .z)) (.s .z (.s .z (.s (.s .z (.c (.s .z (.s .z .z)) .z)) (.s .z (.s .z (.s (.s .z (.c (.s .z .z) .z)) (.s .z (.s (.s .z (.c (.s .z .z) .z)) (.s (.s .z (.c (.s .z .z) .z)) (.s .z (.s (.s .z (.c (.s .z .z) .z)) (.s (.s .z (.c (.s .z .z) .z)) (.s .z (.s (.s .z (.c (.s .z .z) .z)) (.s .z .z))))))))))))))))))
noncomputable def f92 (call : CallF) (s0 : Value) (W0 : World) : Option (Value × World) :=
  ((prun Tryz.prog (Builtin.len_ #[9] 3 #[s0])).bind fun v14 =>
  (bin .lss v14 (Value.int IntKind.i64 1)).bind fun v16 =>
  (asB v16).bind fun c16 =>
  if c16 then
    some (Res.ret [(Value.int IntKind.i32 65533), (Value.int IntKind.i64 0)] W0)
  else
  (prun Tryz.prog (Instr.index 9 s0 (Value.int IntKind.i64 0))).bind fun v18 =>
  (prun Tryz.prog (Instr.indexAt 150 (.pointer (some ⟨1, 0, none⟩)) v18)).bind fun v20 =>
  (rrun Tryz.prog (Instr.loadAt 5 v20) W0).bind fun v21 =>
  (bin .geq v21 (Value.int IntKind.u8 240)).bind fun v23 =>
  (asB v23).bind fun c23 =>
  if c23 then
    (prun Tryz.prog (convert 5 21 v21)).bind fun v25 =>
    (prun Tryz.prog (do eqGuard .shl 21 (Operand.tmp 25) (Operand.const (Value.int IntKind.u64 31)) v25 (Value.int IntKind.u64 31); binOp .shl 21 v25 (Value.int IntKind.u64 31))).bind fun v26 =>
    (prun Tryz.prog (do eqGuard .shr 21 (Operand.tmp 26) (Operand.const (Value.int IntKind.u64 31)) v26 (Value.int IntKind.u64 31); binOp .shr 21 v26 (Value.int IntKind.u64 31))).bind fun v27 =>
    (prun Tryz.prog (Instr.index 9 s0 (Value.int IntKind.i64 0))).bind fun v29 =>
    (prun Tryz.prog (convert 5 21 v29)).bind fun v30 =>
    (prun Tryz.prog (do eqGuard .andNot 21 (Operand.tmp 30) (Operand.tmp 31) v30 v27; binOp .andNot 21 v30 v27)).bind fun v32 =>
    (prun Tryz.prog (do eqGuard .and 21 (Operand.const (Value.int IntKind.i32 65533)) (Operand.tmp 33) (Value.int IntKind.i32 65533) v27; binOp .and 21 (Value.int IntKind.i32 65533) v27)).bind fun v34 =>
    (prun Tryz.prog (do eqGuard .or 21 (Operand.tmp 32) (Operand.tmp 34) v32 v34; binOp .or 21 v32 v34)).bind fun v35 =>
    some (Res.ret [v35, (Value.int IntKind.i64 1)] W0)
  else
  (prun Tryz.prog (do eqGuard .and 5 (Operand.tmp 36) (Operand.const (Value.int IntKind.u8 7)) v21 (Value.int IntKind.u8 7); binOp .and 5 v21 (Value.int IntKind.u8 7))).bind fun v37 =>
  (prun Tryz.prog (convert 5 3 v37)).bind fun v38 =>
  (prun Tryz.prog (do eqGuard .shr 5 (Operand.tmp 39) (Operand.const (Value.int IntKind.u64 4)) v21 (Value.int IntKind.u64 4); binOp .shr 5 v21 (Value.int IntKind.u64 4))).bind fun v40 =>
  (prun Tryz.prog (Instr.indexAt 153 (.pointer (some ⟨2, 0, none⟩)) v40)).bind fun v41 =>
  (rrun Tryz.prog (Instr.loadAt 152 v41) W0).bind fun v42 =>
  (erun Tryz.prog (Instr.alloc 152 true (.tuple #[])) W0).bind fun r9 =>
  (erun Tryz.prog (Instr.storeAt 152 r9.1 v42) r9.2).bind fun r =>
  (bin .lss v14 v38).bind fun v45 =>
  (asB v45).bind fun c45 =>
  if c45 then
    some (Res.ret [(Value.int IntKind.i32 65533), (Value.int IntKind.i64 1)] r.2)
  else
  (prun Tryz.prog (Instr.index 9 s0 (Value.int IntKind.i64 1))).bind fun v47 =>
  (prun Tryz.prog (Instr.fieldAt 152 r9.1 0)).bind fun v49 =>
  (rrun Tryz.prog (Instr.loadAt 5 v49) r.2).bind fun v50 =>
  (bin .lss v47 v50).bind fun v51 =>
  (asB v51).bind fun b52 =>
  (if b52 = false then (prun Tryz.prog (Instr.fieldAt 152 r9.1 1)).bind fun v53 =>
    (rrun Tryz.prog (Instr.loadAt 5 v53) r.2).bind fun v54 =>
    (bin .lss v54 v47).bind fun v56 =>
    some (v56, r.2)
   else some ((Value.bool true), r.2)).bind fun r57 =>
  (asB r57.1).bind fun c57 =>
  if c57 then
    some (Res.ret [(Value.int IntKind.i32 65533), (Value.int IntKind.i64 1)] r57.2)
  else
  (bin .leq v38 (Value.int IntKind.i64 2)).bind fun v59 =>
  (asB v59).bind fun c59 =>
  if c59 then
    (prun Tryz.prog (do eqGuard .and 5 (Operand.tmp 60) (Operand.const (Value.int IntKind.u8 31)) v18 (Value.int IntKind.u8 31); binOp .and 5 v18 (Value.int IntKind.u8 31))).bind fun v61 =>
    (prun Tryz.prog (convert 5 21 v61)).bind fun v62 =>
    (prun Tryz.prog (do eqGuard .shl 21 (Operand.tmp 62) (Operand.const (Value.int IntKind.u64 6)) v62 (Value.int IntKind.u64 6); binOp .shl 21 v62 (Value.int IntKind.u64 6))).bind fun v63 =>
    (prun Tryz.prog (do eqGuard .and 5 (Operand.tmp 64) (Operand.const (Value.int IntKind.u8 63)) v47 (Value.int IntKind.u8 63); binOp .and 5 v47 (Value.int IntKind.u8 63))).bind fun v65 =>
    (prun Tryz.prog (convert 5 21 v65)).bind fun v66 =>
    (prun Tryz.prog (do eqGuard .or 21 (Operand.tmp 63) (Operand.tmp 66) v63 v66; binOp .or 21 v63 v66)).bind fun v67 =>
    some (Res.ret [v67, (Value.int IntKind.i64 2)] r57.2)
  else
  (prun Tryz.prog (Instr.index 9 s0 (Value.int IntKind.i64 2))).bind fun v69 =>
  (bin .lss v69 (Value.int IntKind.u8 128)).bind fun v71 =>
  (asB v71).bind fun b72 =>
  (if b72 = false then (bin .lss (Value.int IntKind.u8 191) v69).bind fun v74 =>
    some (v74, r57.2)
   else some ((Value.bool true), r57.2)).bind fun r75 =>
  (asB r75.1).bind fun c75 =>
  if c75 then
    some (Res.ret [(Value.int IntKind.i32 65533), (Value.int IntKind.i64 1)] r75.2)
  else
  (bin .leq v38 (Value.int IntKind.i64 3)).bind fun v77 =>
  (asB v77).bind fun c77 =>
  if c77 then
    (prun Tryz.prog (do eqGuard .and 5 (Operand.tmp 78) (Operand.const (Value.int IntKind.u8 15)) v18 (Value.int IntKind.u8 15); binOp .and 5 v18 (Value.int IntKind.u8 15))).bind fun v79 =>
    (prun Tryz.prog (convert 5 21 v79)).bind fun v80 =>
    (prun Tryz.prog (do eqGuard .shl 21 (Operand.tmp 80) (Operand.const (Value.int IntKind.u64 12)) v80 (Value.int IntKind.u64 12); binOp .shl 21 v80 (Value.int IntKind.u64 12))).bind fun v81 =>
    (prun Tryz.prog (do eqGuard .and 5 (Operand.tmp 82) (Operand.const (Value.int IntKind.u8 63)) v47 (Value.int IntKind.u8 63); binOp .and 5 v47 (Value.int IntKind.u8 63))).bind fun v83 =>
    (prun Tryz.prog (convert 5 21 v83)).bind fun v84 =>
    (prun Tryz.prog (do eqGuard .shl 21 (Operand.tmp 84) (Operand.const (Value.int IntKind.u64 6)) v84 (Value.int IntKind.u64 6); binOp .shl 21 v84 (Value.int IntKind.u64 6))).bind fun v85 =>
    (prun Tryz.prog (do eqGuard .or 21 (Operand.tmp 81) (Operand.tmp 85) v81 v85; binOp .or 21 v81 v85)).bind fun v86 =>
    (prun Tryz.prog (do eqGuard .and 5 (Operand.tmp 87) (Operand.const (Value.int IntKind.u8 63)) v69 (Value.int IntKind.u8 63); binOp .and 5 v69 (Value.int IntKind.u8 63))).bind fun v88 =>
    (prun Tryz.prog (convert 5 21 v88)).bind fun v89 =>
    (prun Tryz.prog (do eqGuard .or 21 (Operand.tmp 86) (Operand.tmp 89) v86 v89; binOp .or 21 v86 v89)).bind fun v90 =>
    some (Res.ret [v90, (Value.int IntKind.i64 3)] r75.2)
  else
  (prun Tryz.prog (Instr.index 9 s0 (Value.int IntKind.i64 3))).bind fun v92 =>
  (bin .lss v92 (Value.int IntKind.u8 128)).bind fun v94 =>
  (asB v94).bind fun b95 =>
  (if b95 = false then (bin .lss (Value.int IntKind.u8 191) v92).bind fun v97 =>
    some (v97, r75.2)
   else some ((Value.bool true), r75.2)).bind fun r98 =>
  (asB r98.1).bind fun c98 =>
  if c98 then
    some (Res.ret [(Value.int IntKind.i32 65533), (Value.int IntKind.i64 1)] r98.2)
  else
  (prun Tryz.prog (do eqGuard .and 5 (Operand.tmp 99) (Operand.const (Value.int IntKind.u8 7)) v18 (Value.int IntKind.u8 7); binOp .and 5 v18 (Value.int IntKind.u8 7))).bind fun v100 =>
  (prun Tryz.prog (convert 5 21 v100)).bind fun v101 =>
  (prun Tryz.prog (do eqGuard .shl 21 (Operand.tmp 101) (Operand.const (Value.int IntKind.u64 18)) v101 (Value.int IntKind.u64 18); binOp .shl 21 v101 (Value.int IntKind.u64 18))).bind fun v102 =>
  (prun Tryz.prog (do eqGuard .and 5 (Operand.tmp 103) (Operand.const (Value.int IntKind.u8 63)) v47 (Value.int IntKind.u8 63); binOp .and 5 v47 (Value.int IntKind.u8 63))).bind fun v104 =>
  (prun Tryz.prog (convert 5 21 v104)).bind fun v105 =>
  (prun Tryz.prog (do eqGuard .shl 21 (Operand.tmp 105) (Operand.const (Value.int IntKind.u64 12)) v105 (Value.int IntKind.u64 12); binOp .shl 21 v105 (Value.int IntKind.u64 12))).bind fun v106 =>
  (prun Tryz.prog (do eqGuard .or 21 (Operand.tmp 102) (Operand.tmp 106) v102 v106; binOp .or 21 v102 v106)).bind fun v107 =>
  (prun Tryz.prog (do eqGuard .and 5 (Operand.tmp 108) (Operand.const (Value.int IntKind.u8 63)) v69 (Value.int IntKind.u8 63); binOp .and 5 v69 (Value.int IntKind.u8 63))).bind fun v109 =>
  (prun Tryz.prog (convert 5 21 v109)).bind fun v110 =>
  (prun Tryz.prog (do eqGuard .shl 21 (Operand.tmp 110) (Operand.const (Value.int IntKind.u64 6)) v110 (Value.int IntKind.u64 6); binOp .shl 21 v110 (Value.int IntKind.u64 6))).bind fun v111 =>
  (prun Tryz.prog (do eqGuard .or 21 (Operand.tmp 107) (Operand.tmp 111) v107 v111; binOp .or 21 v107 v111)).bind fun v112 =>
  (prun Tryz.prog (do eqGuard .and 5 (Operand.tmp 113) (Operand.const (Value.int IntKind.u8 63)) v92 (Value.int IntKind.u8 63); binOp .and 5 v92 (Value.int IntKind.u8 63))).bind fun v114 =>
  (prun Tryz.prog (convert 5 21 v114)).bind fun v115 =>
  (prun Tryz.prog (do eqGuard .or 21 (Operand.tmp 112) (Operand.tmp 115) v112 v115; binOp .or 21 v112 v115)).bind fun v116 =>
  some (Res.ret [v116, (Value.int IntKind.i64 4)] r98.2)).bind Res.done
theorem f92.eq (call dfr : CallF) (s0 : Value) (W0 : World) : aFun Tryz.prog call dfr Tryz.f92 f92.ann (ofArgs #[s0]) W0 = f92 call s0 W0 := by kernel_rfl

/-- strings.shouldUseASCIISet -/
def f95.ann : Ann := (.s .z (.s .z .z))
noncomputable def f95 (call : CallF) (bufLen0 : Value) (W0 : World) : Option (Value × World) :=
  ((bin .gtr bufLen0 (Value.int IntKind.i64 8)).bind fun v4 =>
  some (Res.ret [v4] W0)).bind Res.done
theorem f95.eq (call dfr : CallF) (bufLen0 : Value) (W0 : World) : aFun Tryz.prog call dfr Tryz.f95 f95.ann (ofArgs #[bufLen0]) W0 = f95 call bufLen0 W0 := by kernel_rfl

/-- strings.makeASCIISet -/
def f96.ann : Ann := (.s .z (.s (.s .z (.b [2] (.l [0, 2, 4] (.s (.s .z (.c .z .z)) (.s (.b [0, 2, 4] (.s .z (.s (.s .z (.c (.s .z .z) .z)) .z))) .z))))) (.s .z .z)))
noncomputable def f96.l0 (call : CallF) (vs : List Value) (W1 : World) : Option Res :=
  let chars0_1 := nth vs 0
  let as2 := nth vs 1
  let i4 := nth vs 2
  (prun Tryz.prog (Builtin.len_ #[9] 3 #[chars0_1])).bind fun v8 =>
  (bin .lss i4 v8).bind fun v9 =>
  (asB v9).bind fun c9 =>
  if c9 then
    ((prun Tryz.prog (Instr.index 9 chars0_1 i4)).bind fun v14 =>
    (bin .geq v14 (Value.int IntKind.u8 128)).bind fun v16 =>
    (asB v16).bind fun c16 =>
    if c16 then
      (rrun Tryz.prog (Instr.loadAt 175 as2) W1).bind fun v17 =>
      (erun Tryz.prog (Instr.storeAt 175 as2 v17) W1).bind fun r =>
      some (Res.ret [as2, (Value.bool false)] r.2)
    else
    (prun Tryz.prog (Instr.indexAt 175 as2 v14)).bind fun v19 =>
    (erun Tryz.prog (Instr.storeAt 4 v19 (Value.bool true)) W1).bind fun r_1 =>
    some (Res.norm [chars0_1, as2, i4] r_1.2)).bind fun (r : Res) => (r.unblock 1).cont fun vs_1 W2 =>
    let chars0_2 := nth vs_1 0
    let as2_1 := nth vs_1 1
    let i4_1 := nth vs_1 2
    (bin .add i4_1 (Value.int IntKind.i64 1)).bind fun v11 =>
    some (Res.norm [chars0_2, as2_1, v11] W2)
  else
  some (Res.exit 0 [as2] W1)
noncomputable def f96 (call : CallF) (chars0 : Value) (W0 : World) : Option (Value × World) :=
  ((erun Tryz.prog (Instr.alloc 175 true (.tuple #[])) W0).bind fun r2 =>
  (iter (f96.l0 call) [chars0, r2.1, (Value.int IntKind.i64 0)] r2.2).bind fun (r : Res) => (r.unblock 0).cont fun vs_2 W3 =>
  let as2_2 := nth vs_2 0
  (rrun Tryz.prog (Instr.loadAt 175 as2_2) W3).bind fun v20 =>
  (erun Tryz.prog (Instr.storeAt 175 as2_2 v20) W3).bind fun r_2 =>
  some (Res.ret [as2_2, (Value.bool true)] r_2.2)).bind (Res.doneR Tryz.prog [.cell 2 175, .tmp 3])
theorem f96.eq (call dfr : CallF) (chars0 : Value) (W0 : World) : aFun Tryz.prog call dfr Tryz.f96 f96.ann (ofArgs #[chars0]) W0 = f96 call chars0 W0 := by kernel_rfl

/-- (*strings.asciiSet).contains -/
def f97.ann : Ann := (.s .z (.s .z .z))
noncomputable def f97 (call : CallF) (as0 : Value) (c1 : Value) (W0 : World) : Option (Value × World) :=
  ((nilV Tryz.prog as0).bind fun v7 =>
  (prun Tryz.prog (Instr.indexAt 175 v7 c1)).bind fun v8 =>
  (rrun Tryz.prog (Instr.loadAt 4 v8) W0).bind fun v9 =>
  some (Res.ret [v9] W0)).bind Res.done
theorem f97.eq (call dfr : CallF) (as0 : Value) (c1 : Value) (W0 : World) : aFun Tryz.prog call dfr Tryz.f97 f97.ann (ofArgs #[as0, c1]) W0 = f97 call as0 c1 W0 := by kernel_rfl

/-- internal/strconv.Atoi -/
def f98.ann : Ann := (.s .z (.s .z (.s (.s .z (.c (.s .z (.s (.s .z (.j [0, 5] (.s .z (.s .z (.c (.s .z .z) .z))) .z)) (.s .z (.s (.s .z (.b [5, 6] (.l [5, 6, 47, 48, 49] (.s .z (.s (.c .z .z) (.s (.b [5, 6, 47, 48, 49] (.s .z (.s .z (.s (.s .z (.c (.s .z .z) .z)) .z)))) .z)))))) (.s (.s .z (.j [6] .z .z)) (.s .z .z)))))) .z)) (.s .z (.s .z .z)))))
noncomputable def f98.l0 (call : CallF) (vs_1 : List Value) (W2 : World) : Option Res :=
  let s05_1 := nth vs_1 0
  let n6 := nth vs_1 1
  let v47 := nth vs_1 2
  let v48_1 := nth vs_1 3
  let v49 := nth vs_1 4
  (bin .lss v49 v48_1).bind fun v50 =>
  (asB v50).bind fun c50 =>
  if c50 then
    ((prun Tryz.prog (Instr.indexAt 160 v47 v49)).bind fun v51 =>
    (rrun Tryz.prog (Instr.loadAt 5 v51) W2).bind fun v52 =>
    (bin .sub v52 (Value.int IntKind.u8 48)).bind fun v54 =>
    (bin .gtr v54 (Value.int IntKind.u8 9)).bind fun v56 =>
    (asB v56).bind fun c56 =>
    if c56 then
      (prun Tryz.prog (Instr.makeInterface 198 (Value.int IntKind.i64 2))).bind fun v57 =>
      some (Res.ret [(Value.int IntKind.i64 0), v57] W2)
    else
    (bin .mul n6 (Value.int IntKind.i64 10)).bind fun v59 =>
    (prun Tryz.prog (convert 5 3 v54)).bind fun v61 =>
    (bin .add v59 v61).bind fun v62 =>
    some (Res.norm [s05_1, v62, v47, v48_1, v49] W2)).bind fun (r : Res) => (r.unblock 1).cont fun vs_2 W3 =>
    let s05_2 := nth vs_2 0
    let n6_1 := nth vs_2 1
    let v47_1 := nth vs_2 2
    let v48_2 := nth vs_2 3
    let v49_1 := nth vs_2 4
    (bin .add v49_1 (Value.int IntKind.i64 1)).bind fun v63 =>
    some (Res.norm [s05_2, n6_1, v47_1, v48_2, v63] W3)
  else
  some (Res.exit 0 [s05_1, n6] W2)
noncomputable def f98 (call : CallF) (s0 : Value) (W0 : World) : Option (Value × World) :=
  ((prun Tryz.prog (Builtin.len_ #[9] 3 #[s0])).bind fun v12 =>
  (asB (Value.bool false)).bind fun b13 =>
  (if b13 = true then (bin .lss (Value.int IntKind.i64 0) v12).bind fun v15 =>
    (asB v15).bind fun b16 =>
    (if b16 = true then (bin .lss v12 (Value.int IntKind.i64 10)).bind fun v18 =>
      some (v18, W0)
     else some ((Value.bool false), W0)).bind fun r19 =>
    some (r19.1, r19.2)
   else some ((Value.bool false), W0)).bind fun r20 =>
  (asB r20.1).bind fun b21 =>
  (if b21 = false then (asB (Value.bool true)).bind fun b22 =>
    (if b22 = true then (bin .lss (Value.int IntKind.i64 0) v12).bind fun v24 =>
      (asB v24).bind fun b25 =>
      (if b25 = true then (bin .lss v12 (Value.int IntKind.i64 19)).bind fun v27 =>
        some (v27, r20.2)
       else some ((Value.bool false), r20.2)).bind fun r28 =>
      some (r28.1, r28.2)
     else some ((Value.bool false), r20.2)).bind fun r29 =>
    some (r29.1, r29.2)
   else some ((Value.bool true), r20.2)).bind fun r30 =>
  (asB r30.1).bind fun c30 =>
  if c30 then
    (prun Tryz.prog (Instr.index 9 s0 (Value.int IntKind.i64 0))).bind fun v33 =>
    (bin .eql v33 (Value.int IntKind.u8 45)).bind fun v34 =>
    (asB v34).bind fun b35 =>
    (if b35 = false then (prun Tryz.prog (Instr.index 9 s0 (Value.int IntKind.i64 0))).bind fun v37 =>
      (bin .eql v37 (Value.int IntKind.u8 43)).bind fun v38 =>
      some (v38, r30.2)
     else some ((Value.bool true), r30.2)).bind fun r39 =>
    (asB r39.1).bind fun c39 =>
    (if c39 then
      (prun Tryz.prog (Instr.sliceAt 9 s0 (some (Value.int IntKind.i64 1)) none none)).bind fun v41 =>
      (prun Tryz.prog (Builtin.len_ #[9] 3 #[v41])).bind fun v43 =>
      (bin .lss v43 (Value.int IntKind.i64 1)).bind fun v44 =>
      (asB v44).bind fun c44 =>
      if c44 then
        (prun Tryz.prog (Instr.makeInterface 198 (Value.int IntKind.i64 2))).bind fun v45 =>
        some (Res.ret [(Value.int IntKind.i64 0), v45] r39.2)
      else
      some (Res.norm [v41, s0] r39.2)
     else
      some (Res.norm [s0, s0] r39.2)).bind fun (r : Res) => r.cont fun vs W1 =>
    let s0_1 := nth vs 0
    let s05 := nth vs 1
    (erun Tryz.prog (convert 9 160 s0_1) W1).bind fun r47 =>
    (prun Tryz.prog (Builtin.len_ #[160] 3 #[r47.1])).bind fun v48 =>
    (iter (f98.l0 call) [s05, (Value.int IntKind.i64 0), r47.1, v48, (Value.int IntKind.i64 0)] r47.2).bind fun (r : Res) => (r.unblock 0).cont fun vs_3 W4 =>
    let s05_3 := nth vs_3 0
    let n6_2 := nth vs_3 1
    (prun Tryz.prog (Instr.index 9 s05_3 (Value.int IntKind.i64 0))).bind fun v65 =>
    (bin .eql v65 (Value.int IntKind.u8 45)).bind fun v66 =>
    (asB v66).bind fun c66 =>
    (if c66 then
      (prun Tryz.prog (Op.unary .neg n6_2)).bind fun v68 =>
      some (Res.norm [v68] W4)
     else
      some (Res.norm [n6_2] W4)).bind fun (r : Res) => r.cont fun vs_4 W5 =>
    let n6_3 := nth vs_4 0
    some (Res.ret [n6_3, Value.nilIface] W5)
  else
  (call 118 #[s0, (Value.int IntKind.i64 10), (Value.int IntKind.i64 0)] r30.2).bind fun r72 =>
  (prun Tryz.prog (Instr.extract r72.1 0)).bind fun v73 =>
  (prun Tryz.prog (Instr.extract r72.1 1)).bind fun v74 =>
  some (Res.ret [v73, v74] r72.2)).bind Res.done
theorem f98.eq (call dfr : CallF) (s0 : Value) (W0 : World) : aFun Tryz.prog call dfr Tryz.f98 f98.ann (ofArgs #[s0]) W0 = f98 call s0 W0 := by kernel_rfl

/-- strconv.toError -/
def f99.ann : Ann := (.s .z (.s (.s .z (.b [4] (.s .z (.c (.s .z .z) (.s .z (.c (.s .z .z) (.s .z (.c (.s .z .z) (.s .z (.c (.s .z .z) .z)))))))))) (.s .z .z)))
noncomputable def f99 (call : CallF) (fn0 : Value) (s1 : Value) (base2 : Value) (bitSize3 : Value) (err4 : Value) (W0 : World) : Option (Value × World) :=
  (((prun Tryz.prog (Instr.makeInterface 198 (Value.int IntKind.i64 2))).bind fun v13 =>
  (rrun Tryz.prog (do eqGuard .eql 32 (Operand.tmp 11) (Operand.tmp 13) err4 v13; binOp .eql 32 err4 v13) W0).bind fun v14 =>
  (asB v14).bind fun c12 =>
  if c12 then
    (call 119 #[fn0, s1] W0).bind fun r17 =>
    (prun Tryz.prog (Instr.makeInterface 201 r17.1)).bind fun v18 =>
    some (Res.ret [v18] r17.2)
  else
  (prun Tryz.prog (Instr.makeInterface 198 (Value.int IntKind.i64 1))).bind fun v20 =>
  (rrun Tryz.prog (do eqGuard .eql 32 (Operand.tmp 11) (Operand.tmp 20) err4 v20; binOp .eql 32 err4 v20) W0).bind fun v21 =>
  (asB v21).bind fun c19 =>
  if c19 then
    (call 120 #[fn0, s1] W0).bind fun r24 =>
    (prun Tryz.prog (Instr.makeInterface 201 r24.1)).bind fun v25 =>
    some (Res.ret [v25] r24.2)
  else
  (prun Tryz.prog (Instr.makeInterface 198 (Value.int IntKind.i64 3))).bind fun v27 =>
  (rrun Tryz.prog (do eqGuard .eql 32 (Operand.tmp 11) (Operand.tmp 27) err4 v27; binOp .eql 32 err4 v27) W0).bind fun v28 =>
  (asB v28).bind fun c26 =>
  if c26 then
    (call 121 #[fn0, s1, base2] W0).bind fun r32 =>
    (prun Tryz.prog (Instr.makeInterface 201 r32.1)).bind fun v33 =>
    some (Res.ret [v33] r32.2)
  else
  (prun Tryz.prog (Instr.makeInterface 198 (Value.int IntKind.i64 4))).bind fun v35 =>
  (rrun Tryz.prog (do eqGuard .eql 32 (Operand.tmp 11) (Operand.tmp 35) err4 v35; binOp .eql 32 err4 v35) W0).bind fun v36 =>
  (asB v36).bind fun c34 =>
  if c34 then
    (call 122 #[fn0, s1, bitSize3] W0).bind fun r40 =>
    (prun Tryz.prog (Instr.makeInterface 201 r40.1)).bind fun v41 =>
    some (Res.ret [v41] r40.2)
  else
  some (Res.norm [err4] W0)).bind fun (r : Res) => (r.unblock 0).cont fun vs W1 =>
  let err4_1 := nth vs 0
  some (Res.ret [err4_1] W1)).bind Res.done
theorem f99.eq (call dfr : CallF) (fn0 : Value) (s1 : Value) (base2 : Value) (bitSize3 : Value) (err4 : Value) (W0 : World) : aFun Tryz.prog call dfr Tryz.f99 f99.ann (ofArgs #[fn0, s1, base2, bitSize3, err4]) W0 = f99 call fn0 s1 base2 bitSize3 err4 W0 := by kernel_rfl

/-- dailies/timecode.Number -/
def f100.ann : Ann := (.s .z (.s .z (.s (.s .z (.c (.s .z .z) .z)) (.s .z (.s (.s .z (.c (.s .z .z) .z)) (.s .z .z))))))
noncomputable def f100 (call : CallF) (r0 : Value) (s1 : Value) (W0 : World) : Option (Value × World) :=
  ((call 80 #[r0] W0).bind fun r13 =>
  (prun Tryz.prog (Instr.extract r13.1 0)).bind fun v14 =>
  (prun Tryz.prog (Instr.extract r13.1 1)).bind fun v15 =>
  (erun Tryz.prog (Instr.alloc 145 true (.tuple #[])) r13.2).bind fun r6 =>
  (erun Tryz.prog (Instr.storeAt 145 r6.1 v14) r6.2).bind fun r =>
  (prun Tryz.prog (Op.unary .not v15)).bind fun v17 =>
  (asB v17).bind fun c17 =>
  if c17 then
    (prun Tryz.prog (Instr.build 83 #[(0, (Value.int IntKind.i64 0)), (1, (Value.int IntKind.i64 181))])).bind fun v18 =>
    (erun Tryz.prog (Instr.box 83 v18) r.2).bind fun r19 =>
    (prun Tryz.prog (Instr.makeInterface 82 r19.1)).bind fun v20 =>
    some (Res.ret [(Value.int IntKind.i64 0), v20] r19.2)
  else
  (rrun Tryz.prog (Instr.loadAt 145 r6.1) r.2).bind fun v22 =>
  (call 123 #[v22, s1] r.2).bind fun r24 =>
  (prun Tryz.prog (Instr.extract r24.1 0)).bind fun v25 =>
  (prun Tryz.prog (Instr.extract r24.1 1)).bind fun v26 =>
  (prun Tryz.prog (Instr.extract r24.1 2)).bind fun v27 =>
  (bin .neq v27 (Value.int IntKind.i64 0)).bind fun v29 =>
  (asB v29).bind fun c29 =>
  if c29 then
    (prun Tryz.prog (Instr.build 83 #[(0, v26), (1, v27)])).bind fun v32 =>
    (erun Tryz.prog (Instr.box 83 v32) r24.2).bind fun r33 =>
    (prun Tryz.prog (Instr.makeInterface 82 r33.1)).bind fun v34 =>
    some (Res.ret [(Value.int IntKind.i64 0), v34] r33.2)
  else
  some (Res.ret [v25, Value.nilIface] r24.2)).bind Res.done
theorem f100.eq (call dfr : CallF) (r0 : Value) (s1 : Value) (W0 : World) : aFun Tryz.prog call dfr Tryz.f100 f100.ann (ofArgs #[r0, s1]) W0 = f100 call r0 s1 W0 := by kernel_rfl

/-- dailies/dailiesref19.count -/
def f101.ann : Ann := (.s .z (.s (.s .z (.c (.s .z .z) .z)) (.s .z (.s (.s .z (.b [3] (.l [0, 3, 4] (.s (.s .z (.c .z .z)) (.s (.b [0, 3, 4] (.s (.s .z (.c (.s .z .z) .z)) .z)) .z))))) (.s (.s .z (.c (.s .z .z) .z)) (.s .z .z))))))
noncomputable def f101.l0 (call : CallF) (vs : List Value) (W1 : World) : Option Res :=
  let s0_1 := nth vs 0
  let n3 := nth vs 1
  let i4 := nth vs 2
  (prun Tryz.prog (Builtin.len_ #[9] 3 #[s0_1])).bind fun v19 =>
  (bin .lss i4 v19).bind fun v20 =>
  (asB v20).bind fun c20 =>
  if c20 then
    ((prun Tryz.prog (Instr.index 9 s0_1 i4)).bind fun v25 =>
    (bin .lss v25 (Value.int IntKind.u8 48)).bind fun v26 =>
    (asB v26).bind fun b27 =>
    (if b27 = false then (prun Tryz.prog (Instr.index 9 s0_1 i4)).bind fun v30 =>
      (bin .gtr v30 (Value.int IntKind.u8 57)).bind fun v31 =>
      some (v31, W1)
     else some ((Value.bool true), W1)).bind fun r32 =>
    (asB r32.1).bind fun c32 =>
    if c32 then
      some (Res.ret [(Value.int IntKind.i64 0)] r32.2)
    else
    (bin .mul (Value.int IntKind.i64 10) n3).bind fun v34 =>
    (prun Tryz.prog (Instr.index 9 s0_1 i4)).bind fun v37 =>
    (bin .sub v37 (Value.int IntKind.u8 48)).bind fun v38 =>
    (prun Tryz.prog (convert 5 3 v38)).bind fun v39 =>
    (bin .add v34 v39).bind fun v40 =>
    some (Res.norm [s0_1, v40, i4] r32.2)).bind fun (r : Res) => (r.unblock 1).cont fun vs_1 W2 =>
    let s0_2 := nth vs_1 0
    let n3_1 := nth vs_1 1
    let i4_1 := nth vs_1 2
    (bin .add i4_1 (Value.int IntKind.i64 1)).bind fun v22 =>
    some (Res.norm [s0_2, n3_1, v22] W2)
  else
  some (Res.exit 0 [n3] W1)
noncomputable def f101 (call : CallF) (s0 : Value) (W0 : World) : Option (Value × World) :=
  ((prun Tryz.prog (do eqGuard .eql 9 (Operand.tmp 5) (Operand.const (Value.string { data := #[] })) s0 (Value.string { data := #[] }); binOp .eql 9 s0 (Value.string { data := #[] }))).bind fun v6 =>
  (asB v6).bind fun b7 =>
  (if b7 = false then (prun Tryz.prog (Builtin.len_ #[9] 3 #[s0])).bind fun v9 =>
    (bin .gtr v9 (Value.int IntKind.i64 3)).bind fun v10 =>
    some (v10, W0)
   else some ((Value.bool true), W0)).bind fun r11 =>
  (asB r11.1).bind fun b12 =>
  (if b12 = false then (prun Tryz.prog (Instr.index 9 s0 (Value.int IntKind.i64 0))).bind fun v14 =>
    (bin .eql v14 (Value.int IntKind.u8 48)).bind fun v15 =>
    some (v15, r11.2)
   else some ((Value.bool true), r11.2)).bind fun r16 =>
  (asB r16.1).bind fun c16 =>
  if c16 then
    some (Res.ret [(Value.int IntKind.i64 0)] r16.2)
  else
  (iter (f101.l0 call) [s0, (Value.int IntKind.i64 0), (Value.int IntKind.i64 0)] r16.2).bind fun (r : Res) => (r.unblock 0).cont fun vs_2 W3 =>
  let n3_2 := nth vs_2 0
  (bin .gtr n3_2 (Value.int IntKind.i64 100)).bind fun v42 =>
  (asB v42).bind fun c42 =>
  if c42 then
    some (Res.ret [(Value.int IntKind.i64 0)] W3)
  else
  some (Res.ret [n3_2] W3)).bind Res.done
theorem f101.eq (call dfr : CallF) (s0 : Value) (W0 : World) : aFun Tryz.prog call dfr Tryz.f101 f101.ann (ofArgs #[s0]) W0 = f101 call s0 W0 := by kernel_rfl

/-- dailies/dailiesref19.nameMay -/
def f102.ann : Ann := (.s .z (.s (.s .z (.b [0] (.l [0, 3] (.s (.s .z (.c .z .z)) (.s (.b [0, 3] (.s .z (.s .z (.c (.s .z .z) .z)))) .z))))) (.s .z .z)))
noncomputable def f102.l0 (call : CallF) (vs : List Value) (W1 : World) : Option Res :=
  let s0_1 := nth vs 0
  let i3 := nth vs 1
  (prun Tryz.prog (Builtin.len_ #[9] 3 #[s0_1])).bind fun v7 =>
  (bin .lss i3 v7).bind fun v8 =>
  (asB v8).bind fun c8 =>
  if c8 then
    ((prun Tryz.prog (Instr.index 9 s0_1 i3)).bind fun v13 =>
    (bin .geq v13 (Value.int IntKind.u8 97)).bind fun v15 =>
    (asB v15).bind fun b16 =>
    (if b16 = true then (bin .leq v13 (Value.int IntKind.u8 122)).bind fun v18 =>
      some (v18, W1)
     else some ((Value.bool false), W1)).bind fun r19 =>
    (asB r19.1).bind fun b20 =>
    (if b20 = false then (bin .geq v13 (Value.int IntKind.u8 48)).bind fun v22 =>
      (asB v22).bind fun b23 =>
      (if b23 = true then (bin .leq v13 (Value.int IntKind.u8 57)).bind fun v25 =>
        some (v25, r19.2)
       else some ((Value.bool false), r19.2)).bind fun r26 =>
      some (r26.1, r26.2)
     else some ((Value.bool true), r19.2)).bind fun r27 =>
    (asB r27.1).bind fun b28 =>
    (if b28 = false then (bin .eql v13 (Value.int IntKind.u8 95)).bind fun v30 =>
      some (v30, r27.2)
     else some ((Value.bool true), r27.2)).bind fun r31 =>
    (asB r31.1).bind fun b32 =>
    (if b32 = false then (bin .eql v13 (Value.int IntKind.u8 45)).bind fun v34 =>
      some (v34, r31.2)
     else some ((Value.bool true), r31.2)).bind fun r35 =>
    (prun Tryz.prog (Op.unary .not r35.1)).bind fun v36 =>
    (asB v36).bind fun c36 =>
    if c36 then
      some (Res.ret [(Value.bool false)] r35.2)
    else
    some (Res.norm [s0_1, i3] r35.2)).bind fun (r : Res) => (r.unblock 1).cont fun vs_1 W2 =>
    let s0_2 := nth vs_1 0
    let i3_1 := nth vs_1 1
    (bin .add i3_1 (Value.int IntKind.i64 1)).bind fun v10 =>
    some (Res.norm [s0_2, v10] W2)
  else
  some (Res.exit 0 [s0_1] W1)
noncomputable def f102 (call : CallF) (s0 : Value) (W0 : World) : Option (Value × World) :=
  ((iter (f102.l0 call) [s0, (Value.int IntKind.i64 0)] W0).bind fun (r : Res) => (r.unblock 0).cont fun vs_2 W3 =>
  let s0_3 := nth vs_2 0
  (prun Tryz.prog (Builtin.len_ #[9] 3 #[s0_3])).bind fun v38 =>
  (bin .geq v38 (Value.int IntKind.i64 1)).bind fun v39 =>
  (asB v39).bind fun b40 =>
  (if b40 = true then (prun Tryz.prog (Builtin.len_ #[9] 3 #[s0_3])).bind fun v42 =>
    (bin .leq v42 (Value.int IntKind.i64 16)).bind fun v43 =>
    some (v43, W3)
   else some ((Value.bool false), W3)).bind fun r44 =>
  some (Res.ret [r44.1] r44.2)).bind Res.done
theorem f102.eq (call dfr : CallF) (s0 : Value) (W0 : World) : aFun Tryz.prog call dfr Tryz.f102 f102.ann (ofArgs #[s0]) W0 = f102 call s0 W0 := by kernel_rfl

/-- dailies/dailiesref18.Told -/
def f103.ann : Ann := (.s .z (.s .z (.s (.s .z (.c (.s .z .z) .z)) (.s .z (.s (.s .z (.c (.s .z .z) .z)) (.s .z (.s .z (.s .z (.s .z (.s (.b [0, 9, 10, 11, 12] (.s .z (.c (.s .z .z) (.s .z (.c (.s .z .z) (.s .z (.c (.s .z .z) (.s .z (.c (.s .z .z) .z))))))))) (.s .z (.s .z (.s (.s .z (.c (.s .z .z) .z)) (.s .z (.s (.s .z (.b [15] (.l [0, 13, 15, 16] (.s (.s .z (.c .z .z)) (.s (.b [0, 13, 15, 16] .z) .z))))) (.s .z .z))))))))))))))))
noncomputable def f103.l0 (call : CallF) (vs_1 : List Value) (W2 : World) : Option Res :=
  let r0_2 := nth vs_1 0
  let m13 := nth vs_1 1
  let n15 := nth vs_1 2
  let i16 := nth vs_1 3
  (bin .lss i16 m13).bind fun v71 =>
  (asB v71).bind fun c71 =>
  if c71 then
    ((call 87 #[r0_2] W2).bind fun r76 =>
    (bin .mul (Value.int IntKind.i64 60) r76.1).bind fun v77 =>
    (bin .add n15 v77).bind fun v78 =>
    (call 108 #[r0_2, i16] r76.2).bind fun r81 =>
    (bin .sub v78 r81.1).bind fun v82 =>
    some (Res.norm [r0_2, m13, v82, i16] r81.2)).bind fun (r : Res) => (r.unblock 2).cont fun vs_2 W3 =>
    let r0_3 := nth vs_2 0
    let m13_1 := nth vs_2 1
    let n15_1 := nth vs_2 2
    let i16_1 := nth vs_2 3
    (bin .add i16_1 (Value.int IntKind.i64 1)).bind fun v73 =>
    some (Res.norm [r0_3, m13_1, n15_1, v73] W3)
  else
  some (Res.exit 1 [n15] W2)
noncomputable def f103 (call : CallF) (r0 : Value) (s1 : Value) (W0 : World) : Option (Value × World) :=
  ((call 124 #[r0] W0).bind fun r18 =>
  (prun Tryz.prog (Op.unary .not r18.1)).bind fun v20 =>
  (asB v20).bind fun c20 =>
  if c20 then
    some (Res.ret [(Value.int IntKind.i64 0), (Value.int IntKind.i64 0), (Value.int IntKind.i64 181)] r18.2)
  else
  (call 125 #[r0, s1] r18.2).bind fun r23 =>
  (bin .geq r23.1 (Value.int IntKind.i64 0)).bind fun v25 =>
  (asB v25).bind fun c25 =>
  if c25 then
    some (Res.ret [(Value.int IntKind.i64 0), r23.1, (Value.int IntKind.i64 182)] r23.2)
  else
  (call 126 #[s1, (Value.int IntKind.i64 0)] r23.2).bind fun r28 =>
  (call 126 #[s1, (Value.int IntKind.i64 3)] r28.2).bind fun r30 =>
  (call 126 #[s1, (Value.int IntKind.i64 6)] r30.2).bind fun r32 =>
  (call 126 #[s1, (Value.int IntKind.i64 9)] r32.2).bind fun r34 =>
  ((bin .gtr r28.1 (Value.int IntKind.i64 23)).bind fun v37 =>
  (asB v37).bind fun c35 =>
  if c35 then
    some (Res.ret [(Value.int IntKind.i64 0), (Value.int IntKind.i64 0), (Value.int IntKind.i64 184)] r34.2)
  else
  (bin .gtr r30.1 (Value.int IntKind.i64 59)).bind fun v40 =>
  (asB v40).bind fun c38 =>
  if c38 then
    some (Res.ret [(Value.int IntKind.i64 0), (Value.int IntKind.i64 3), (Value.int IntKind.i64 182)] r34.2)
  else
  (bin .gtr r32.1 (Value.int IntKind.i64 59)).bind fun v43 =>
  (asB v43).bind fun c41 =>
  if c41 then
    some (Res.ret [(Value.int IntKind.i64 0), (Value.int IntKind.i64 6), (Value.int IntKind.i64 182)] r34.2)
  else
  (call 87 #[r0] r34.2).bind fun r47 =>
  (bin .geq r34.1 r47.1).bind fun v48 =>
  (asB v48).bind fun c44 =>
  if c44 then
    some (Res.ret [(Value.int IntKind.i64 0), (Value.int IntKind.i64 9), (Value.int IntKind.i64 182)] r47.2)
  else
  some (Res.norm [r0, r28.1, r30.1, r32.1, r34.1] r47.2)).bind fun (r : Res) => (r.unblock 0).cont fun vs W1 =>
  let r0_1 := nth vs 0
  let hour9 := nth vs 1
  let minute10 := nth vs 2
  let second11 := nth vs 3
  let frame12 := nth vs 4
  (bin .mul (Value.int IntKind.i64 60) hour9).bind fun v50 =>
  (bin .add v50 minute10).bind fun v52 =>
  (call 87 #[r0_1] W1).bind fun r54 =>
  (bin .mul r54.1 second11).bind fun v56 =>
  (bin .add v56 frame12).bind fun v58 =>
  (call 108 #[r0_1, v52] r54.2).bind fun r62 =>
  (bin .lss v58 r62.1).bind fun v63 =>
  (asB v63).bind fun c63 =>
  if c63 then
    some (Res.ret [(Value.int IntKind.i64 0), (Value.int IntKind.i64 9), (Value.int IntKind.i64 183)] r62.2)
  else
  (call 108 #[r0_1, v52] r62.2).bind fun r67 =>
  (bin .sub v58 r67.1).bind fun v68 =>
  (iter (f103.l0 call) [r0_1, v52, v68, (Value.int IntKind.i64 0)] r67.2).bind fun (r : Res) => (r.unblock 1).cont fun vs_3 W4 =>
  let n15_2 := nth vs_3 0
  some (Res.ret [n15_2, (Value.int IntKind.i64 0), (Value.int IntKind.i64 0)] W4)).bind Res.done
theorem f103.eq (call dfr : CallF) (r0 : Value) (s1 : Value) (W0 : World) : aFun Tryz.prog call dfr Tryz.f103 f103.ann (ofArgs #[r0, s1]) W0 = f103 call r0 s1 W0 := by kernel_rfl

/-- (dailies/timecode.rate).perTen -/
def f106.ann : Ann := (.s .z (.s .z .z))
noncomputable def f106 (call : CallF) (x0 : Value) (W0 : World) : Option (Value × World) :=
  ((erun Tryz.prog (Instr.box 145 x0) W0).bind fun r1 =>
  (prun Tryz.prog (Instr.fieldAt 145 r1.1 0)).bind fun v3 =>
  (rrun Tryz.prog (Instr.loadAt 3 v3) r1.2).bind fun v4 =>
  (bin .mul (Value.int IntKind.i64 600) v4).bind fun v5 =>
  (prun Tryz.prog (Instr.fieldAt 145 r1.1 3)).bind fun v6 =>
  (rrun Tryz.prog (Instr.loadAt 3 v6) r1.2).bind fun v7 =>
  (bin .mul (Value.int IntKind.i64 9) v7).bind fun v8 =>
  (bin .sub v5 v8).bind fun v9 =>
  some (Res.ret [v9] r1.2)).bind Res.done
theorem f106.eq (call dfr : CallF) (x0 : Value) (W0 : World) : aFun Tryz.prog call dfr Tryz.f106 f106.ann (ofArgs #[x0]) W0 = f106 call x0 W0 := by kernel_rfl

/-- dailies/dailiesref18.PerDay -/
def f107.ann : Ann := (.s .z (.s .z (.s (.s .z (.c (.s .z .z) .z)) (.s .z (.s (.s .z (.b [5] (.l [0, 5, 6] (.s (.s .z (.c .z .z)) (.s (.b [0, 5, 6] .z) .z))))) (.s .z .z))))))
noncomputable def f107.l0 (call : CallF) (vs : List Value) (W1 : World) : Option Res :=
  let r0_1 := nth vs 0
  let n5 := nth vs 1
  let m6 := nth vs 2
  (bin .lss m6 (Value.int IntKind.i64 1440)).bind fun v12 =>
  (asB v12).bind fun c12 =>
  if c12 then
    ((call 87 #[r0_1] W1).bind fun r17 =>
    (bin .mul (Value.int IntKind.i64 60) r17.1).bind fun v18 =>
    (bin .add n5 v18).bind fun v19 =>
    (call 108 #[r0_1, m6] r17.2).bind fun r22 =>
    (bin .sub v19 r22.1).bind fun v23 =>
    some (Res.norm [r0_1, v23, m6] r22.2)).bind fun (r : Res) => (r.unblock 1).cont fun vs_1 W2 =>
    let r0_2 := nth vs_1 0
    let n5_1 := nth vs_1 1
    let m6_1 := nth vs_1 2
    (bin .add m6_1 (Value.int IntKind.i64 1)).bind fun v14 =>
    some (Res.norm [r0_2, n5_1, v14] W2)
  else
  some (Res.exit 0 [n5] W1)
noncomputable def f107 (call : CallF) (r0 : Value) (W0 : World) : Option (Value × World) :=
  ((call 124 #[r0] W0).bind fun r8 =>
  (prun Tryz.prog (Op.unary .not r8.1)).bind fun v10 =>
  (asB v10).bind fun c10 =>
  if c10 then
    some (Res.ret [(Value.int IntKind.i64 0), (Value.int IntKind.i64 181)] r8.2)
  else
  (iter (f107.l0 call) [r0, (Value.int IntKind.i64 0), (Value.int IntKind.i64 0)] r8.2).bind fun (r : Res) => (r.unblock 0).cont fun vs_2 W3 =>
  let n5_2 := nth vs_2 0
  some (Res.ret [n5_2, (Value.int IntKind.i64 0)] W3)).bind Res.done
theorem f107.eq (call dfr : CallF) (r0 : Value) (W0 : World) : aFun Tryz.prog call dfr Tryz.f107 f107.ann (ofArgs #[r0]) W0 = f107 call r0 W0 := by kernel_rfl

/-- dailies/dailiesref18.left -/
def f108.ann : Ann := (.s .z (.s (.s .z (.c (.s .z .z) .z)) (.s (.s .z (.b [] (.s .z (.c (.s .z .z) (.s .z (.c (.s .z .z) .z)))))) (.s .z .z))))
noncomputable def f108 (call : CallF) (r0 : Value) (minute1 : Value) (W0 : World) : Option (Value × World) :=
  ((bin .rem minute1 (Value.int IntKind.i64 10)).bind fun v6 =>
  (bin .eql v6 (Value.int IntKind.i64 0)).bind fun v7 =>
  (asB v7).bind fun c7 =>
  if c7 then
    some (Res.ret [(Value.int IntKind.i64 0)] W0)
  else
  ((bin .eql r0 (Value.int IntKind.i64 4)).bind fun v10 =>
  (asB v10).bind fun c9 =>
  if c9 then
    some (Res.ret [(Value.int IntKind.i64 2)] W0)
  else
  (bin .eql r0 (Value.int IntKind.i64 7)).bind fun v12 =>
  (asB v12).bind fun c11 =>
  if c11 then
    some (Res.ret [(Value.int IntKind.i64 4)] W0)
  else
  some (Res.norm [] W0)).bind fun (r : Res) => (r.unblock 0).cont fun vs W1 =>
  some (Res.ret [(Value.int IntKind.i64 0)] W1)).bind Res.done
theorem f108.eq (call dfr : CallF) (r0 : Value) (minute1 : Value) (W0 : World) : aFun Tryz.prog call dfr Tryz.f108 f108.ann (ofArgs #[r0, minute1]) W0 = f108 call r0 minute1 W0 := by kernel_rfl

/-- unicode/utf8.appendRuneNonASCII -/
def f109.ann : Ann := (.s .z (.s .z (.b [4] (.s .z (.c (.s .z .z) (.s (.s .z (.j [0, 1, 5, 25] .z .z)) (.c (.s .z .z) (.s .z (.c (.s .z .z) (.s .z .z))))))))))
noncomputable def f109 (call : CallF) (p0 : Value) (r1 : Value) (W0 : World) : Option (Value × World) :=
  ((prun Tryz.prog (convert 21 190 r1)).bind fun v7 =>
  ((bin .leq v7 (Value.int IntKind.u32 2047)).bind fun v13 =>
  (asB v13).bind fun c11 =>
  if c11 then
    (prun Tryz.prog (do eqGuard .shr 21 (Operand.tmp 15) (Operand.const (Value.int IntKind.u64 6)) r1 (Value.int IntKind.u64 6); binOp .shr 21 r1 (Value.int IntKind.u64 6))).bind fun v16 =>
    (prun Tryz.prog (convert 21 5 v16)).bind fun v17 =>
    (prun Tryz.prog (do eqGuard .or 5 (Operand.const (Value.int IntKind.u8 192)) (Operand.tmp 17) (Value.int IntKind.u8 192) v17; binOp .or 5 (Value.int IntKind.u8 192) v17)).bind fun v18 =>
    (prun Tryz.prog (convert 21 5 r1)).bind fun v20 =>
    (prun Tryz.prog (do eqGuard .and 5 (Operand.tmp 20) (Operand.const (Value.int IntKind.u8 63)) v20 (Value.int IntKind.u8 63); binOp .and 5 v20 (Value.int IntKind.u8 63))).bind fun v21 =>
    (prun Tryz.prog (do eqGuard .or 5 (Operand.const (Value.int IntKind.u8 128)) (Operand.tmp 21) (Value.int IntKind.u8 128) v21; binOp .or 5 (Value.int IntKind.u8 128) v21)).bind fun v22 =>
    (erun Tryz.prog (Instr.buildSlice 160 2 #[(0, v18), (1, v22)]) W0).bind fun r23 =>
    (erun Tryz.prog (Builtin.append_ #[160, 160] 160 #[p0, r23.1]) r23.2).bind fun r24 =>
    some (Res.ret [r24.1] r24.2)
  else
  (bin .lss v7 (Value.int IntKind.u32 55296)).bind fun v27 =>
  (asB v27).bind fun c25 =>
  (if c25 then
    some (Res.norm [p0, r1, v7, v27] W0)
   else
    (bin .lss (Value.int IntKind.u32 57343) v7).bind fun v29 =>
    (asB v29).bind fun b30 =>
    (if b30 = true then (bin .leq v7 (Value.int IntKind.u32 65535)).bind fun v32 =>
      some (v32, W0)
     else some ((Value.bool false), W0)).bind fun r33 =>
    some (Res.norm [p0, r1, v7, r33.1] r33.2)).bind fun (r : Res) => r.cont fun vs W1 =>
  let p0_1 := nth vs 0
  let r1_1 := nth vs 1
  let i5 := nth vs 2
  let v25 := nth vs 3
  (asB v25).bind fun c25_1 =>
  if c25_1 then
    (prun Tryz.prog (do eqGuard .shr 21 (Operand.tmp 35) (Operand.const (Value.int IntKind.u64 12)) r1_1 (Value.int IntKind.u64 12); binOp .shr 21 r1_1 (Value.int IntKind.u64 12))).bind fun v36 =>
    (prun Tryz.prog (convert 21 5 v36)).bind fun v37 =>
    (prun Tryz.prog (do eqGuard .or 5 (Operand.const (Value.int IntKind.u8 224)) (Operand.tmp 37) (Value.int IntKind.u8 224) v37; binOp .or 5 (Value.int IntKind.u8 224) v37)).bind fun v38 =>
    (prun Tryz.prog (do eqGuard .shr 21 (Operand.tmp 39) (Operand.const (Value.int IntKind.u64 6)) r1_1 (Value.int IntKind.u64 6); binOp .shr 21 r1_1 (Value.int IntKind.u64 6))).bind fun v40 =>
    (prun Tryz.prog (convert 21 5 v40)).bind fun v41 =>
    (prun Tryz.prog (do eqGuard .and 5 (Operand.tmp 41) (Operand.const (Value.int IntKind.u8 63)) v41 (Value.int IntKind.u8 63); binOp .and 5 v41 (Value.int IntKind.u8 63))).bind fun v42 =>
    (prun Tryz.prog (do eqGuard .or 5 (Operand.const (Value.int IntKind.u8 128)) (Operand.tmp 42) (Value.int IntKind.u8 128) v42; binOp .or 5 (Value.int IntKind.u8 128) v42)).bind fun v43 =>
    (prun Tryz.prog (convert 21 5 r1_1)).bind fun v45 =>
    (prun Tryz.prog (do eqGuard .and 5 (Operand.tmp 45) (Operand.const (Value.int IntKind.u8 63)) v45 (Value.int IntKind.u8 63); binOp .and 5 v45 (Value.int IntKind.u8 63))).bind fun v46 =>
    (prun Tryz.prog (do eqGuard .or 5 (Operand.const (Value.int IntKind.u8 128)) (Operand.tmp 46) (Value.int IntKind.u8 128) v46; binOp .or 5 (Value.int IntKind.u8 128) v46)).bind fun v47 =>
    (erun Tryz.prog (Instr.buildSlice 160 3 #[(0, v38), (1, v43), (2, v47)]) W1).bind fun r48 =>
    (erun Tryz.prog (Builtin.append_ #[160, 160] 160 #[p0_1, r48.1]) r48.2).bind fun r49 =>
    some (Res.ret [r49.1] r49.2)
  else
  (bin .gtr i5 (Value.int IntKind.u32 65535)).bind fun v52 =>
  (asB v52).bind fun b53 =>
  (if b53 = true then (bin .leq i5 (Value.int IntKind.u32 1114111)).bind fun v55 =>
    some (v55, W1)
   else some ((Value.bool false), W1)).bind fun r56 =>
  (asB r56.1).bind fun c50 =>
  if c50 then
    (prun Tryz.prog (do eqGuard .shr 21 (Operand.tmp 58) (Operand.const (Value.int IntKind.u64 18)) r1_1 (Value.int IntKind.u64 18); binOp .shr 21 r1_1 (Value.int IntKind.u64 18))).bind fun v59 =>
    (prun Tryz.prog (convert 21 5 v59)).bind fun v60 =>
    (prun Tryz.prog (do eqGuard .or 5 (Operand.const (Value.int IntKind.u8 240)) (Operand.tmp 60) (Value.int IntKind.u8 240) v60; binOp .or 5 (Value.int IntKind.u8 240) v60)).bind fun v61 =>
    (prun Tryz.prog (do eqGuard .shr 21 (Operand.tmp 62) (Operand.const (Value.int IntKind.u64 12)) r1_1 (Value.int IntKind.u64 12); binOp .shr 21 r1_1 (Value.int IntKind.u64 12))).bind fun v63 =>
    (prun Tryz.prog (convert 21 5 v63)).bind fun v64 =>
    (prun Tryz.prog (do eqGuard .and 5 (Operand.tmp 64) (Operand.const (Value.int IntKind.u8 63)) v64 (Value.int IntKind.u8 63); binOp .and 5 v64 (Value.int IntKind.u8 63))).bind fun v65 =>
    (prun Tryz.prog (do eqGuard .or 5 (Operand.const (Value.int IntKind.u8 128)) (Operand.tmp 65) (Value.int IntKind.u8 128) v65; binOp .or 5 (Value.int IntKind.u8 128) v65)).bind fun v66 =>
    (prun Tryz.prog (do eqGuard .shr 21 (Operand.tmp 67) (Operand.const (Value.int IntKind.u64 6)) r1_1 (Value.int IntKind.u64 6); binOp .shr 21 r1_1 (Value.int IntKind.u64 6))).bind fun v68 =>
    (prun Tryz.prog (convert 21 5 v68)).bind fun v69 =>
    (prun Tryz.prog (do eqGuard .and 5 (Operand.tmp 69) (Operand.const (Value.int IntKind.u8 63)) v69 (Value.int IntKind.u8 63); binOp .and 5 v69 (Value.int IntKind.u8 63))).bind fun v70 =>
    (prun Tryz.prog (do eqGuard .or 5 (Operand.const (Value.int IntKind.u8 128)) (Operand.tmp 70) (Value.int IntKind.u8 128) v70; binOp .or 5 (Value.int IntKind.u8 128) v70)).bind fun v71 =>
    (prun Tryz.prog (convert 21 5 r1_1)).bind fun v73 =>
    (prun Tryz.prog (do eqGuard .and 5 (Operand.tmp 73) (Operand.const (Value.int IntKind.u8 63)) v73 (Value.int IntKind.u8 63); binOp .and 5 v73 (Value.int IntKind.u8 63))).bind fun v74 =>
    (prun Tryz.prog (do eqGuard .or 5 (Operand.const (Value.int IntKind.u8 128)) (Operand.tmp 74) (Value.int IntKind.u8 128) v74; binOp .or 5 (Value.int IntKind.u8 128) v74)).bind fun v75 =>
    (erun Tryz.prog (Instr.buildSlice 160 4 #[(0, v61), (1, v66), (2, v71), (3, v75)]) r56.2).bind fun r76 =>
    (erun Tryz.prog (Builtin.append_ #[160, 160] 160 #[p0_1, r76.1]) r76.2).bind fun r77 =>
    some (Res.ret [r77.1] r77.2)
  else
  (erun Tryz.prog (Instr.buildSlice 160 3 #[(0, (Value.int IntKind.u8 239)), (1, (Value.int IntKind.u8 191)), (2, (Value.int IntKind.u8 189))]) r56.2).bind fun r9 =>
  (erun Tryz.prog (Builtin.append_ #[160, 160] 160 #[p0_1, r9.1]) r9.2).bind fun r10 =>
  some (Res.ret [r10.1] r10.2)).bind fun (r : Res) => (r.unblock 0).cont fun vs_1 W2 =>
  let v4 := nth vs_1 0
  some (Res.norm [v4] W2)).bind Res.done
theorem f109.eq (call dfr : CallF) (p0 : Value) (r1 : Value) (W0 : World) : aFun Tryz.prog call dfr Tryz.f109 f109.ann (ofArgs #[p0, r1]) W0 = f109 call p0 r1 W0 := by kernel_rfl

/-- dailies/timecode.of -/
def f110.ann : Ann := (.s .z (.s .z (.s (.b [4, 6] (.s .z (.c (.s .z .z) (.s .z (.c (.s .z .z) .z))))) (.s .z .z))))
noncomputable def f110 (call : CallF) (r0 : Value) (n1 : Value) (W0 : World) : Option (Value × World) :=
  ((erun Tryz.prog (Instr.alloc 145 true (.tuple #[])) W0).bind fun r4 =>
  (call 80 #[r0] r4.2).bind fun r10 =>
  (prun Tryz.prog (Instr.extract r10.1 0)).bind fun v11 =>
  (prun Tryz.prog (Instr.extract r10.1 1)).bind fun v12 =>
  (erun Tryz.prog (Instr.alloc 145 true (.tuple #[])) r10.2).bind fun r6 =>
  (erun Tryz.prog (Instr.storeAt 145 r6.1 v11) r6.2).bind fun r =>
  ((prun Tryz.prog (Op.unary .not v12)).bind fun v15 =>
  (asB v15).bind fun c13 =>
  if c13 then
    (prun Tryz.prog (Instr.build 145 #[])).bind fun v16 =>
    (erun Tryz.prog (Instr.storeAt 145 r4.1 v16) r.2).bind fun r_1 =>
    some (Res.ret [r4.1, (Value.int IntKind.i64 181)] r_1.2)
  else
  (bin .lss n1 (Value.int IntKind.i64 0)).bind fun v19 =>
  (asB v19).bind fun b20 =>
  (if b20 = false then (rrun Tryz.prog (Instr.loadAt 145 r6.1) r.2).bind fun v22 =>
    (call 81 #[v22] r.2).bind fun r23 =>
    (bin .geq n1 r23.1).bind fun v24 =>
    some (v24, r23.2)
   else some ((Value.bool true), r.2)).bind fun r25 =>
  (asB r25.1).bind fun c17 =>
  if c17 then
    (prun Tryz.prog (Instr.build 145 #[])).bind fun v26 =>
    (erun Tryz.prog (Instr.storeAt 145 r4.1 v26) r25.2).bind fun r_2 =>
    some (Res.ret [r4.1, (Value.int IntKind.i64 184)] r_2.2)
  else
  some (Res.norm [r4.1, r6.1] r25.2)).bind fun (r : Res) => (r.unblock 0).cont fun vs W1 =>
  let v4 := nth vs 0
  let x6 := nth vs 1
  (rrun Tryz.prog (Instr.loadAt 145 x6) W1).bind fun v27 =>
  (erun Tryz.prog (Instr.storeAt 145 v4 v27) W1).bind fun r_3 =>
  some (Res.ret [v4, (Value.int IntKind.i64 0)] r_3.2)).bind (Res.doneR Tryz.prog [.cell 4 145, .tmp 5])
theorem f110.eq (call dfr : CallF) (r0 : Value) (n1 : Value) (W0 : World) : aFun Tryz.prog call dfr Tryz.f110 f110.ann (ofArgs #[r0, n1]) W0 = f110 call r0 n1 W0 := by kernel_rfl

/-- (dailies/timecode.rate).dropped -/
def f111.ann : Ann := (.s .z (.s .z (.s .z (.s (.s .z (.s .z (.j [2, 7] .z .z))) (.s .z .z)))))
noncomputable def f111 (call : CallF) (x0 : Value) (n1 : Value) (W0 : World) : Option (Value × World) :=
  ((erun Tryz.prog (Instr.box 145 x0) W0).bind fun r2 =>
  ((rrun Tryz.prog (Instr.loadAt 145 r2.1) r2.2.drew).bind fun v10 =>
  some (v10, r2.2.drew)).bind fun r10 =>
  ((call 106 #[r10.1] r10.2).bind fun r11_1 =>
  some (r11_1.1, r11_1.2)).bind fun r11 =>
  ((bin .quo n1 r11.1).bind fun v12 =>
  some (v12, r11.2)).bind fun r12 =>
  ((rrun Tryz.prog (Instr.loadAt 145 r2.1) r12.2).bind fun v14 =>
  some (v14, r12.2)).bind fun r14 =>
  ((call 106 #[r14.1] r14.2).bind fun r15_1 =>
  some (r15_1.1, r15_1.2)).bind fun r15 =>
  ((bin .rem n1 r15.1).bind fun v16 =>
  some (v16, r15.2)).bind fun r16 =>
  chkThen ((((rrun Tryz.prog (Instr.loadAt 145 r2.1) r10.2).bind fun v14_1 => some v14_1) = some r14.1 ∧ ((rrun Tryz.prog (Instr.loadAt 145 r2.1) r11.2).bind fun v14_2 => some v14_2) = some r14.1) ∧ True)
  ((bin .mul (Value.int IntKind.i64 9) r12.1).bind fun v18 =>
  (prun Tryz.prog (Instr.fieldAt 145 r2.1 0)).bind fun v19 =>
  (rrun Tryz.prog (Instr.loadAt 3 v19) r16.2).bind fun v20 =>
  (bin .mul (Value.int IntKind.i64 60) v20).bind fun v21 =>
  (bin .geq r16.1 v21).bind fun v24 =>
  (asB v24).bind fun c24 =>
  (if c24 then
    (bin .sub r16.1 v21).bind fun v28 =>
    (rrun Tryz.prog (Instr.loadAt 145 r2.1) r16.2).bind fun v29 =>
    (call 127 #[v29] r16.2).bind fun r30 =>
    (bin .quo v28 r30.1).bind fun v31 =>
    (bin .add (Value.int IntKind.i64 1) v31).bind fun v32 =>
    (bin .add v18 v32).bind fun v33 =>
    some (Res.norm [r2.1, v33] r30.2)
   else
    some (Res.norm [r2.1, v18] r16.2)).bind fun (r : Res) => r.cont fun vs W1 =>
  let x2 := nth vs 0
  let minutes7 := nth vs 1
  (prun Tryz.prog (Instr.fieldAt 145 x2 3)).bind fun v35 =>
  (rrun Tryz.prog (Instr.loadAt 3 v35) W1).bind fun v36 =>
  (bin .mul minutes7 v36).bind fun v37 =>
  some (Res.ret [v37] W1))).bind Res.done
theorem f111.eq (call dfr : CallF) (x0 : Value) (n1 : Value) (W0 : World) : aFun Tryz.prog call dfr Tryz.f111 f111.ann (ofArgs #[x0, n1]) W0 = f111 call x0 n1 W0 := by kernel_rfl

/-- dailies/timecode.two -/
def f112.ann : Ann := (.s .z (.s .z .z))
noncomputable def f112 (call : CallF) (b0 : Value) (n1 : Value) (W0 : World) : Option (Value × World) :=
  ((bin .quo n1 (Value.int IntKind.i64 10)).bind fun v7 =>
  (bin .add (Value.int IntKind.i64 48) v7).bind fun v8 =>
  (prun Tryz.prog (convert 3 5 v8)).bind fun v9 =>
  (bin .rem n1 (Value.int IntKind.i64 10)).bind fun v11 =>
  (bin .add (Value.int IntKind.i64 48) v11).bind fun v12 =>
  (prun Tryz.prog (convert 3 5 v12)).bind fun v13 =>
  (erun Tryz.prog (Instr.buildSlice 160 2 #[(0, v9), (1, v13)]) W0).bind fun r14 =>
  (erun Tryz.prog (Builtin.append_ #[160, 160] 160 #[b0, r14.1]) r14.2).bind fun r15 =>
  some (Res.ret [r15.1] r15.2)).bind Res.done
theorem f112.eq (call dfr : CallF) (b0 : Value) (n1 : Value) (W0 : World) : aFun Tryz.prog call dfr Tryz.f112 f112.ann (ofArgs #[b0, n1]) W0 = f112 call b0 n1 W0 := by kernel_rfl

/-- (dailies/timecode.rate).mark -/
def f113.ann : Ann := (.s .z (.s (.s .z (.c (.s .z .z) .z)) (.s .z .z)))
noncomputable def f113 (call : CallF) (x0 : Value) (W0 : World) : Option (Value × World) :=
  ((erun Tryz.prog (Instr.box 145 x0) W0).bind fun r1 =>
  (prun Tryz.prog (Instr.fieldAt 145 r1.1 3)).bind fun v3 =>
  (rrun Tryz.prog (Instr.loadAt 3 v3) r1.2).bind fun v4 =>
  (bin .gtr v4 (Value.int IntKind.i64 0)).bind fun v5 =>
  (asB v5).bind fun c5 =>
  if c5 then
    some (Res.ret [(Value.int IntKind.u8 59)] r1.2)
  else
  some (Res.ret [(Value.int IntKind.u8 58)] r1.2)).bind Res.done
theorem f113.eq (call dfr : CallF) (x0 : Value) (W0 : World) : aFun Tryz.prog call dfr Tryz.f113 f113.ann (ofArgs #[x0]) W0 = f113 call x0 W0 := by kernel_rfl

/-- internal/strconv.Itoa -/
def f114.ann : Ann := (.s .z (.s .z .z))
noncomputable def f114 (call : CallF) (i0 : Value) (W0 : World) : Option (Value × World) :=
  ((call 128 #[i0, (Value.int IntKind.i64 10)] W0).bind fun r4 =>
  some (Res.ret [r4.1] r4.2)).bind Res.done
theorem f114.eq (call dfr : CallF) (i0 : Value) (W0 : World) : aFun Tryz.prog call dfr Tryz.f114 f114.ann (ofArgs #[i0]) W0 = f114 call i0 W0 := by kernel_rfl

/-- unicode/utf8.ValidRune -/
def f115.ann : Ann := (.s .z (.s (.b [] (.s .z (.c (.s .z .z) (.s .z (.c (.s .z .z) .z))))) (.s .z .z)))
noncomputable def f115 (call : CallF) (r0 : Value) (W0 : World) : Option (Value × World) :=
  (((bin .leq (Value.int IntKind.i32 0) r0).bind fun v5 =>
  (asB v5).bind fun b6 =>
  (if b6 = true then (bin .lss r0 (Value.int IntKind.i32 55296)).bind fun v8 =>
    some (v8, W0)
   else some ((Value.bool false), W0)).bind fun r9 =>
  (asB r9.1).bind fun c3 =>
  if c3 then
    some (Res.ret [(Value.bool true)] r9.2)
  else
  (bin .lss (Value.int IntKind.i32 57343) r0).bind fun v12 =>
  (asB v12).bind fun b13 =>
  (if b13 = true then (bin .leq r0 (Value.int IntKind.i32 1114111)).bind fun v15 =>
    some (v15, r9.2)
   else some ((Value.bool false), r9.2)).bind fun r16 =>
  (asB r16.1).bind fun c10 =>
  if c10 then
    some (Res.ret [(Value.bool true)] r16.2)
  else
  some (Res.norm [] r16.2)).bind fun (r : Res) => (r.unblock 0).cont fun vs W1 =>
  some (Res.ret [(Value.bool false)] W1)).bind Res.done
theorem f115.eq (call dfr : CallF) (r0 : Value) (W0 : World) : aFun Tryz.prog call dfr Tryz.f115 f115.ann (ofArgs #[r0]) W0 = f115 call r0 W0 := by kernel_rfl

/-- internal/strconv.ParseInt -/
def f118.ann : Ann := (.s .z (.s (.s .z (.c (.s .z .z) .z)) (.s .z (.s (.s .z (.b [0, 1, 2, 8] (.s .z (.c .z (.s .z (.c (.s .z .z) .z)))))) (.s .z (.s .z (.s (.s .z (.c (.s .z .z) .z)) (.s (.s .z (.j [2, 8, 9] .z .z)) (.s .z (.s (.s .z (.c (.s .z .z) .z)) (.s (.s .z (.c (.s .z .z) .z)) (.s .z (.s (.s .z (.j [11] .z .z)) (.s .z .z))))))))))))))
noncomputable def f118 (call : CallF) (s0 : Value) (base1 : Value) (bitSize2 : Value) (W0 : World) : Option (Value × World) :=
  ((prun Tryz.prog (do eqGuard .eql 9 (Operand.tmp 12) (Operand.const (Value.string { data := #[] })) s0 (Value.string { data := #[] }); binOp .eql 9 s0 (Value.string { data := #[] }))).bind fun v13 =>
  (asB v13).bind fun c13 =>
  if c13 then
    (prun Tryz.prog (Instr.makeInterface 198 (Value.int IntKind.i64 2))).bind fun v14 =>
    some (Res.ret [(Value.int IntKind.i64 0), v14] W0)
  else
  (prun Tryz.prog (Instr.index 9 s0 (Value.int IntKind.i64 0))).bind fun v16 =>
  ((bin .eql v16 (Value.int IntKind.u8 43)).bind fun v18 =>
  (asB v18).bind fun c17 =>
  if c17 then
    (prun Tryz.prog (Instr.sliceAt 9 s0 (some (Value.int IntKind.i64 1)) none none)).bind fun v20 =>
    some (Res.norm [v20, base1, bitSize2, (Value.bool false)] W0)
  else
  (bin .eql v16 (Value.int IntKind.u8 45)).bind fun v22 =>
  (asB v22).bind fun c21 =>
  if c21 then
    (prun Tryz.prog (Instr.sliceAt 9 s0 (some (Value.int IntKind.i64 1)) none none)).bind fun v24 =>
    some (Res.norm [v24, base1, bitSize2, (Value.bool true)] W0)
  else
  some (Res.norm [s0, base1, bitSize2, (Value.bool false)] W0)).bind fun (r : Res) => (r.unblock 0).cont fun vs W1 =>
  let s0_1 := nth vs 0
  let base1_1 := nth vs 1
  let bitSize2_1 := nth vs 2
  let neg8 := nth vs 3
  (call 129 #[s0_1, base1_1, bitSize2_1] W1).bind fun r29 =>
  (prun Tryz.prog (Instr.extract r29.1 0)).bind fun v30 =>
  (prun Tryz.prog (Instr.extract r29.1 1)).bind fun v31 =>
  (rrun Tryz.prog (do eqGuard .neq 32 (Operand.tmp 32) (Operand.const Value.nilIface) v31 Value.nilIface; binOp .neq 32 v31 Value.nilIface) r29.2).bind fun v33 =>
  (asB v33).bind fun b34 =>
  (if b34 = true then (prun Tryz.prog (Instr.makeInterface 198 (Value.int IntKind.i64 1))).bind fun v36 =>
    (rrun Tryz.prog (do eqGuard .neq 32 (Operand.tmp 35) (Operand.tmp 36) v31 v36; binOp .neq 32 v31 v36) r29.2).bind fun v37 =>
    some (v37, r29.2)
   else some ((Value.bool false), r29.2)).bind fun r38 =>
  (asB r38.1).bind fun c38 =>
  if c38 then
    some (Res.ret [(Value.int IntKind.i64 0), v31] r38.2)
  else
  (bin .eql bitSize2_1 (Value.int IntKind.i64 0)).bind fun v41 =>
  (asB v41).bind fun c41 =>
  (if c41 then
    some (Res.norm [(Value.int IntKind.i64 64), neg8, v30] r38.2)
   else
    some (Res.norm [bitSize2_1, neg8, v30] r38.2)).bind fun (r : Res) => r.cont fun vs_1 W2 =>
  let bitSize2_2 := nth vs_1 0
  let neg8_1 := nth vs_1 1
  let un9 := nth vs_1 2
  (bin .sub bitSize2_2 (Value.int IntKind.i64 1)).bind fun v43 =>
  (prun Tryz.prog (convert 3 154 v43)).bind fun v44 =>
  (prun Tryz.prog (do eqGuard .shl 159 (Operand.const (Value.int IntKind.u64 1)) (Operand.tmp 44) (Value.int IntKind.u64 1) v44; binOp .shl 159 (Value.int IntKind.u64 1) v44)).bind fun v45 =>
  (prun Tryz.prog (Op.unary .not neg8_1)).bind fun v47 =>
  (asB v47).bind fun b48 =>
  (if b48 = true then (bin .geq un9 v45).bind fun v51 =>
    some (v51, W2)
   else some ((Value.bool false), W2)).bind fun r52 =>
  (asB r52.1).bind fun c52 =>
  if c52 then
    (bin .sub v45 (Value.int IntKind.u64 1)).bind fun v54 =>
    (prun Tryz.prog (convert 159 2 v54)).bind fun v55 =>
    (prun Tryz.prog (Instr.makeInterface 198 (Value.int IntKind.i64 1))).bind fun v56 =>
    some (Res.ret [v55, v56] r52.2)
  else
  (asB neg8_1).bind fun b58 =>
  (if b58 = true then (bin .gtr un9 v45).bind fun v61 =>
    some (v61, r52.2)
   else some ((Value.bool false), r52.2)).bind fun r62 =>
  (asB r62.1).bind fun c62 =>
  if c62 then
    (prun Tryz.prog (convert 159 2 v45)).bind fun v64 =>
    (prun Tryz.prog (Op.unary .neg v64)).bind fun v65 =>
    (prun Tryz.prog (Instr.makeInterface 198 (Value.int IntKind.i64 1))).bind fun v66 =>
    some (Res.ret [v65, v66] r62.2)
  else
  (prun Tryz.prog (convert 159 2 un9)).bind fun v68 =>
  (asB neg8_1).bind fun c69 =>
  (if c69 then
    (prun Tryz.prog (Op.unary .neg v68)).bind fun v71 =>
    some (Res.norm [v71] r62.2)
   else
    some (Res.norm [v68] r62.2)).bind fun (r : Res) => r.cont fun vs_2 W3 =>
  let n11 := nth vs_2 0
  some (Res.ret [n11, Value.nilIface] W3)).bind Res.done
theorem f118.eq (call dfr : CallF) (s0 : Value) (base1 : Value) (bitSize2 : Value) (W0 : World) : aFun Tryz.prog call dfr Tryz.f118 f118.ann (ofArgs #[s0, base1, bitSize2]) W0 = f118 call s0 base1 bitSize2 W0 := by kernel_rfl

/-- strconv.syntaxError -/
def f119.ann : Ann := (.s .z (.s .z .z))
noncomputable def f119 (call : CallF) (fn0 : Value) (str1 : Value) (W0 : World) : Option (Value × World) :=
  (((call 130 #[str1] W0.drew).bind fun r7_1 =>
  some (r7_1.1, r7_1.2)).bind fun r7 =>
  ((rrun Tryz.prog (Instr.loadAt 32 (.pointer (some ⟨5, 0, none⟩))) r7.2).bind fun v8 =>
  some (v8, r7.2)).bind fun r8 =>
  ((prun Tryz.prog (Instr.build 211 #[(0, fn0), (1, r7.1), (2, r8.1)])).bind fun v9 =>
  some (v9, r8.2)).bind fun r9 =>
  ((erun Tryz.prog (Instr.box 211 r9.1) r9.2).bind fun r10_1 =>
  some (r10_1.1, r10_1.2)).bind fun r10 =>
  chkThen ((((rrun Tryz.prog (Instr.loadAt 32 (.pointer (some ⟨5, 0, none⟩))) W0.drew).bind fun v8_1 => some v8_1) = some r8.1 ∧ ((rrun Tryz.prog (Instr.loadAt 32 (.pointer (some ⟨5, 0, none⟩))) r7.2).bind fun v8_2 => some v8_2) = some r8.1) ∧ True)
  (some (Res.ret [r10.1] r10.2))).bind Res.done
theorem f119.eq (call dfr : CallF) (fn0 : Value) (str1 : Value) (W0 : World) : aFun Tryz.prog call dfr Tryz.f119 f119.ann (ofArgs #[fn0, str1]) W0 = f119 call fn0 str1 W0 := by kernel_rfl

/-- strconv.rangeError -/
def f120.ann : Ann := (.s .z (.s .z .z))
noncomputable def f120 (call : CallF) (fn0 : Value) (str1 : Value) (W0 : World) : Option (Value × World) :=
  (((call 130 #[str1] W0.drew).bind fun r7_1 =>
  some (r7_1.1, r7_1.2)).bind fun r7 =>
  ((rrun Tryz.prog (Instr.loadAt 32 (.pointer (some ⟨6, 0, none⟩))) r7.2).bind fun v8 =>
  some (v8, r7.2)).bind fun r8 =>
  ((prun Tryz.prog (Instr.build 211 #[(0, fn0), (1, r7.1), (2, r8.1)])).bind fun v9 =>
  some (v9, r8.2)).bind fun r9 =>
  ((erun Tryz.prog (Instr.box 211 r9.1) r9.2).bind fun r10_1 =>
  some (r10_1.1, r10_1.2)).bind fun r10 =>
  chkThen ((((rrun Tryz.prog (Instr.loadAt 32 (.pointer (some ⟨6, 0, none⟩))) W0.drew).bind fun v8_1 => some v8_1) = some r8.1 ∧ ((rrun Tryz.prog (Instr.loadAt 32 (.pointer (some ⟨6, 0, none⟩))) r7.2).bind fun v8_2 => some v8_2) = some r8.1) ∧ True)
  (some (Res.ret [r10.1] r10.2))).bind Res.done
theorem f120.eq (call dfr : CallF) (fn0 : Value) (str1 : Value) (W0 : World) : aFun Tryz.prog call dfr Tryz.f120 f120.ann (ofArgs #[fn0, str1]) W0 = f120 call fn0 str1 W0 := by kernel_rfl

/-- strconv.baseError -/
def f121.ann : Ann := (.s .z (.s .z .z))
noncomputable def f121 (call : CallF) (fn0 : Value) (str1 : Value) (base2 : Value) (W0 : World) : Option (Value × World) :=
  ((call 130 #[str1] W0).bind fun r9 =>
  (call 91 #[base2] r9.2).bind fun r11 =>
  (prun Tryz.prog (do eqGuard .add 9 (Operand.const (Value.string { data := #[105, 110, 118, 97, 108, 105, 100, 32, 98, 97, 115, 101, 32] })) (Operand.tmp 11) (Value.string { data := #[105, 110, 118, 97, 108, 105, 100, 32, 98, 97, 115, 101, 32] }) r11.1; binOp .add 9 (Value.string { data := #[105, 110, 118, 97, 108, 105, 100, 32, 98, 97, 115, 101, 32] }) r11.1)).bind fun v12 =>
  (call 131 #[v12] r11.2).bind fun r13 =>
  (prun Tryz.prog (Instr.build 211 #[(0, fn0), (1, r9.1), (2, r13.1)])).bind fun v14 =>
  (erun Tryz.prog (Instr.box 211 v14) r13.2).bind fun r15 =>
  some (Res.ret [r15.1] r15.2)).bind Res.done
theorem f121.eq (call dfr : CallF) (fn0 : Value) (str1 : Value) (base2 : Value) (W0 : World) : aFun Tryz.prog call dfr Tryz.f121 f121.ann (ofArgs #[fn0, str1, base2]) W0 = f121 call fn0 str1 base2 W0 := by kernel_rfl

/-- strconv.bitSizeError -/
def f122.ann : Ann := (.s .z (.s .z .z))
noncomputable def f122 (call : CallF) (fn0 : Value) (str1 : Value) (bitSize2 : Value) (W0 : World) : Option (Value × World) :=
  ((call 130 #[str1] W0).bind fun r9 =>
  (call 91 #[bitSize2] r9.2).bind fun r11 =>
  (prun Tryz.prog (do eqGuard .add 9 (Operand.const (Value.string { data := #[105, 110, 118, 97, 108, 105, 100, 32, 98, 105, 116, 32, 115, 105, 122, 101, 32] })) (Operand.tmp 11) (Value.string { data := #[105, 110, 118, 97, 108, 105, 100, 32, 98, 105, 116, 32, 115, 105, 122, 101, 32] }) r11.1; binOp .add 9 (Value.string { data := #[105, 110, 118, 97, 108, 105, 100, 32, 98, 105, 116, 32, 115, 105, 122, 101, 32] }) r11.1)).bind fun v12 =>
  (call 131 #[v12] r11.2).bind fun r13 =>
  (prun Tryz.prog (Instr.build 211 #[(0, fn0), (1, r9.1), (2, r13.1)])).bind fun v14 =>
  (erun Tryz.prog (Instr.box 211 v14) r13.2).bind fun r15 =>
  some (Res.ret [r15.1] r15.2)).bind Res.done
theorem f122.eq (call dfr : CallF) (fn0 : Value) (str1 : Value) (bitSize2 : Value) (W0 : World) : aFun Tryz.prog call dfr Tryz.f122 f122.ann (ofArgs #[fn0, str1, bitSize2]) W0 = f122 call fn0 str1 bitSize2 W0 := by kernel_rfl

/-- (dailies/timecode.rate).read -/
def f123.ann : Ann := (.s .z (.s (.s .z (.s .z (.c (.s .z .z) .z))) (.s .z (.s .z (.s (.b [2, 9, 10, 11, 12] (.s .z (.c (.s .z .z) (.s .z (.c (.s .z .z) (.s .z (.c (.s .z .z) (.s .z (.c (.s .z .z) (.s .z (.c (.s .z .z) .z))))))))))) (.s .z (.s .z .z)))))))
noncomputable def f123 (call : CallF) (x0 : Value) (s1 : Value) (W0 : World) : Option (Value × World) :=
  ((erun Tryz.prog (Instr.box 145 x0) W0).bind fun r2 =>
  (erun Tryz.prog (Instr.box 9 s1) r2.2).bind fun r3 =>
  (rrun Tryz.prog (Instr.loadAt 145 r2.1) r3.2).bind fun v14 =>
  (rrun Tryz.prog (Instr.loadAt 9 r3.1) r3.2).bind fun v15 =>
  (call 132 #[v14, v15] r3.2).bind fun r16 =>
  (bin .geq r16.1 (Value.int IntKind.i64 0)).bind fun v18 =>
  (asB v18).bind fun c18 =>
  if c18 then
    some (Res.ret [(Value.int IntKind.i64 0), r16.1, (Value.int IntKind.i64 182)] r16.2)
  else
  (callV call (.func (Fn.func 133) #[] #[r3.1]) [(Value.int IntKind.i64 0)] r16.2).bind fun r22 =>
  (callV call (.func (Fn.func 133) #[] #[r3.1]) [(Value.int IntKind.i64 3)] r22.2).bind fun r24 =>
  (callV call (.func (Fn.func 133) #[] #[r3.1]) [(Value.int IntKind.i64 6)] r24.2).bind fun r26 =>
  (callV call (.func (Fn.func 133) #[] #[r3.1]) [(Value.int IntKind.i64 9)] r26.2).bind fun r28 =>
  ((bin .gtr r22.1 (Value.int IntKind.i64 23)).bind fun v31 =>
  (asB v31).bind fun c29 =>
  if c29 then
    some (Res.ret [(Value.int IntKind.i64 0), (Value.int IntKind.i64 0), (Value.int IntKind.i64 184)] r28.2)
  else
  (bin .gtr r24.1 (Value.int IntKind.i64 59)).bind fun v34 =>
  (asB v34).bind fun c32 =>
  if c32 then
    some (Res.ret [(Value.int IntKind.i64 0), (Value.int IntKind.i64 3), (Value.int IntKind.i64 182)] r28.2)
  else
  (bin .gtr r26.1 (Value.int IntKind.i64 59)).bind fun v37 =>
  (asB v37).bind fun c35 =>
  if c35 then
    some (Res.ret [(Value.int IntKind.i64 0), (Value.int IntKind.i64 6), (Value.int IntKind.i64 182)] r28.2)
  else
  (prun Tryz.prog (Instr.fieldAt 145 r2.1 0)).bind fun v40 =>
  (rrun Tryz.prog (Instr.loadAt 3 v40) r28.2).bind fun v41 =>
  (bin .geq r28.1 v41).bind fun v42 =>
  (asB v42).bind fun c38 =>
  if c38 then
    some (Res.ret [(Value.int IntKind.i64 0), (Value.int IntKind.i64 9), (Value.int IntKind.i64 182)] r28.2)
  else
  (bin .rem r24.1 (Value.int IntKind.i64 10)).bind fun v45 =>
  (bin .neq v45 (Value.int IntKind.i64 0)).bind fun v46 =>
  (asB v46).bind fun b47 =>
  (if b47 = true then (bin .eql r26.1 (Value.int IntKind.i64 0)).bind fun v49 =>
    some (v49, r28.2)
   else some ((Value.bool false), r28.2)).bind fun r50 =>
  (asB r50.1).bind fun b51 =>
  (if b51 = true then (prun Tryz.prog (Instr.fieldAt 145 r2.1 3)).bind fun v53 =>
    (rrun Tryz.prog (Instr.loadAt 3 v53) r50.2).bind fun v54 =>
    (bin .lss r28.1 v54).bind fun v55 =>
    some (v55, r50.2)
   else some ((Value.bool false), r50.2)).bind fun r56 =>
  (asB r56.1).bind fun c43 =>
  if c43 then
    some (Res.ret [(Value.int IntKind.i64 0), (Value.int IntKind.i64 9), (Value.int IntKind.i64 183)] r56.2)
  else
  some (Res.norm [r2.1, r22.1, r24.1, r26.1, r28.1] r56.2)).bind fun (r : Res) => (r.unblock 0).cont fun vs W1 =>
  let x2 := nth vs 0
  let hour9 := nth vs 1
  let minute10 := nth vs 2
  let sec11 := nth vs 3
  let frame12 := nth vs 4
  (bin .mul (Value.int IntKind.i64 60) hour9).bind fun v58 =>
  (bin .add v58 minute10).bind fun v60 =>
  (prun Tryz.prog (Instr.fieldAt 145 x2 0)).bind fun v61 =>
  (rrun Tryz.prog (Instr.loadAt 3 v61) W1).bind fun v62 =>
  (bin .mul (Value.int IntKind.i64 60) v60).bind fun v64 =>
  (bin .add v64 sec11).bind fun v66 =>
  (bin .mul v62 v66).bind fun v67 =>
  (bin .add v67 frame12).bind fun v69 =>
  (prun Tryz.prog (Instr.fieldAt 145 x2 3)).bind fun v70 =>
  (rrun Tryz.prog (Instr.loadAt 3 v70) W1).bind fun v71 =>
  (bin .quo v60 (Value.int IntKind.i64 10)).bind fun v74 =>
  (bin .sub v60 v74).bind fun v75 =>
  (bin .mul v71 v75).bind fun v76 =>
  (bin .sub v69 v76).bind fun v77 =>
  some (Res.ret [v77, (Value.int IntKind.i64 0), (Value.int IntKind.i64 0)] W1)).bind Res.done
theorem f123.eq (call dfr : CallF) (x0 : Value) (s1 : Value) (W0 : World) : aFun Tryz.prog call dfr Tryz.f123 f123.ann (ofArgs #[x0, s1]) W0 = f123 call x0 s1 W0 := by kernel_rfl

/-- dailies/dailiesref18.Rate -/
def f124.ann : Ann := (.s .z (.s .z .z))
noncomputable def f124 (call : CallF) (r0 : Value) (W0 : World) : Option (Value × World) :=
  ((bin .geq r0 (Value.int IntKind.i64 1)).bind fun v4 =>
  (asB v4).bind fun b5 =>
  (if b5 = true then (bin .leq r0 (Value.int IntKind.i64 7)).bind fun v7 =>
    some (v7, W0)
   else some ((Value.bool false), W0)).bind fun r8 =>
  some (Res.ret [r8.1] r8.2)).bind Res.done
theorem f124.eq (call dfr : CallF) (r0 : Value) (W0 : World) : aFun Tryz.prog call dfr Tryz.f124 f124.ann (ofArgs #[r0]) W0 = f124 call r0 W0 := by kernel_rfl

/-- dailies/dailiesref18.formed -/
def f125.ann : Ann := (.s .z (.s .z (.s (.s .z (.b [1, 5] (.l [1, 5, 6] (.s (.s .z (.c .z .z)) (.s (.b [1, 5, 6] (.s (.s .z (.c (.s .z .z) .z)) (.s .z (.s .z (.c (.s .z .z) .z))))) .z))))) (.s (.s .z (.c (.s .z .z) .z)) (.s .z .z)))))
noncomputable def f125.l0 (call : CallF) (vs : List Value) (W1 : World) : Option Res :=
  let s1_1 := nth vs 0
  let form5 := nth vs 1
  let i6 := nth vs 2
  (prun Tryz.prog (Builtin.len_ #[9] 3 #[form5])).bind fun v14 =>
  (bin .lss i6 v14).bind fun v15 =>
  (asB v15).bind fun c15 =>
  if c15 then
    ((prun Tryz.prog (Builtin.len_ #[9] 3 #[s1_1])).bind fun v20 =>
    (bin .geq i6 v20).bind fun v21 =>
    (asB v21).bind fun c21 =>
    if c21 then
      some (Res.ret [i6] W1)
    else
    (prun Tryz.prog (Instr.index 9 s1_1 i6)).bind fun v25 =>
    (bin .geq v25 (Value.int IntKind.u8 48)).bind fun v26 =>
    (asB v26).bind fun b27 =>
    (if b27 = true then (prun Tryz.prog (Instr.index 9 s1_1 i6)).bind fun v30 =>
      (bin .leq v30 (Value.int IntKind.u8 57)).bind fun v31 =>
      some (v31, W1)
     else some ((Value.bool false), W1)).bind fun r32 =>
    (prun Tryz.prog (Instr.index 9 form5 i6)).bind fun v35 =>
    (bin .eql v35 (Value.int IntKind.u8 100)).bind fun v36 =>
    (asB v36).bind fun b37 =>
    (if b37 = true then (prun Tryz.prog (Op.unary .not r32.1)).bind fun v39 =>
      some (v39, r32.2.drew)
     else some ((Value.bool false), r32.2.drew)).bind fun r40 =>
    (asB r40.1).bind fun b41 =>
    (if b41 = false then (prun Tryz.prog (Instr.index 9 form5 i6)).bind fun v44 =>
      (bin .neq v44 (Value.int IntKind.u8 100)).bind fun v45 =>
      (asB v45).bind fun b46 =>
      (if b46 = true then (prun Tryz.prog (Instr.index 9 s1_1 i6)).bind fun v49 =>
        (prun Tryz.prog (Instr.index 9 form5 i6)).bind fun v52 =>
        (bin .neq v49 v52).bind fun v53 =>
        some (v53, r40.2)
       else some ((Value.bool false), r40.2)).bind fun r54 =>
      some (r54.1, r54.2)
     else some ((Value.bool true), r40.2)).bind fun r55 =>
    (asB r55.1).bind fun c55 =>
    if c55 then
      some (Res.ret [i6] r55.2)
    else
    some (Res.norm [s1_1, form5, i6] r55.2)).bind fun (r : Res) => (r.unblock 1).cont fun vs_1 W2 =>
    let s1_2 := nth vs_1 0
    let form5_1 := nth vs_1 1
    let i6_1 := nth vs_1 2
    (bin .add i6_1 (Value.int IntKind.i64 1)).bind fun v17 =>
    some (Res.norm [s1_2, form5_1, v17] W2)
  else
  some (Res.exit 0 [s1_1, form5] W1)
noncomputable def f125 (call : CallF) (r0 : Value) (s1 : Value) (W0 : World) : Option (Value × World) :=
  ((call 88 #[r0] W0).bind fun r9 =>
  (prun Tryz.prog (do eqGuard .add 9 (Operand.const (Value.string { data := #[100, 100, 58, 100, 100, 58, 100, 100] })) (Operand.tmp 9) (Value.string { data := #[100, 100, 58, 100, 100, 58, 100, 100] }) r9.1; binOp .add 9 (Value.string { data := #[100, 100, 58, 100, 100, 58, 100, 100] }) r9.1)).bind fun v10 =>
  (prun Tryz.prog (do eqGuard .add 9 (Operand.tmp 10) (Operand.const (Value.string { data := #[100, 100] })) v10 (Value.string { data := #[100, 100] }); binOp .add 9 v10 (Value.string { data := #[100, 100] }))).bind fun v11 =>
  (iter (f125.l0 call) [s1, v11, (Value.int IntKind.i64 0)] r9.2).bind fun (r : Res) => (r.unblock 0).cont fun vs_2 W3 =>
  let s1_3 := nth vs_2 0
  let form5_2 := nth vs_2 1
  (prun Tryz.prog (Builtin.len_ #[9] 3 #[s1_3])).bind fun v58 =>
  (prun Tryz.prog (Builtin.len_ #[9] 3 #[form5_2])).bind fun v60 =>
  (bin .gtr v58 v60).bind fun v61 =>
  (asB v61).bind fun c61 =>
  if c61 then
    (prun Tryz.prog (Builtin.len_ #[9] 3 #[form5_2])).bind fun v63 =>
    some (Res.ret [v63] W3)
  else
  some (Res.ret [(Value.int IntKind.i64 (-1))] W3)).bind Res.done
theorem f125.eq (call dfr : CallF) (r0 : Value) (s1 : Value) (W0 : World) : aFun Tryz.prog call dfr Tryz.f125 f125.ann (ofArgs #[r0, s1]) W0 = f125 call r0 s1 W0 := by kernel_rfl

/-- dailies/dailiesref18.value -/
def f126.ann : Ann := (.s .z (.s .z .z))
noncomputable def f126 (call : CallF) (s0 : Value) (at1 : Value) (W0 : World) : Option (Value × World) :=
  ((prun Tryz.prog (Instr.index 9 s0 at1)).bind fun v7 =>
  (bin .sub v7 (Value.int IntKind.u8 48)).bind fun v8 =>
  (prun Tryz.prog (convert 5 3 v8)).bind fun v9 =>
  (bin .mul (Value.int IntKind.i64 10) v9).bind fun v10 =>
  (bin .add at1 (Value.int IntKind.i64 1)).bind fun v13 =>
  (prun Tryz.prog (Instr.index 9 s0 v13)).bind fun v14 =>
  (bin .sub v14 (Value.int IntKind.u8 48)).bind fun v15 =>
  (prun Tryz.prog (convert 5 3 v15)).bind fun v16 =>
  (bin .add v10 v16).bind fun v17 =>
  some (Res.ret [v17] W0.drew)).bind Res.done
theorem f126.eq (call dfr : CallF) (s0 : Value) (at1 : Value) (W0 : World) : aFun Tryz.prog call dfr Tryz.f126 f126.ann (ofArgs #[s0, at1]) W0 = f126 call s0 at1 W0 := by kernel_rfl

/-- (dailies/timecode.rate).perMinute -/
def f127.ann : Ann := (.s .z (.s .z .z))
noncomputable def f127 (call : CallF) (x0 : Value) (W0 : World) : Option (Value × World) :=
  ((erun Tryz.prog (Instr.box 145 x0) W0).bind fun r1 =>
  (prun Tryz.prog (Instr.fieldAt 145 r1.1 0)).bind fun v3 =>
  (rrun Tryz.prog (Instr.loadAt 3 v3) r1.2).bind fun v4 =>
  (bin .mul (Value.int IntKind.i64 60) v4).bind fun v5 =>
  (prun Tryz.prog (Instr.fieldAt 145 r1.1 3)).bind fun v6 =>
  (rrun Tryz.prog (Instr.loadAt 3 v6) r1.2).bind fun v7 =>
  (bin .sub v5 v7).bind fun v8 =>
  some (Res.ret [v8] r1.2)).bind Res.done
theorem f127.eq (call dfr : CallF) (x0 : Value) (W0 : World) : aFun Tryz.prog call dfr Tryz.f127 f127.ann (ofArgs #[x0]) W0 = f127 call x0 W0 := by kernel_rfl

/-- internal/strconv.FormatInt -/
def f128.ann : Ann := (.s .z (.s (.s .z (.c (.s (.s .z (.c (.s .z .z) .z)) (.s .z (.s .z (.s (.s .z (.j [0, 5, 6] .z .z)) (.s .z (.s .z (.s (.s .z (.c (.s .z (.s .z .z)) .z)) (.s .z .z)))))))) .z)) (.s .z (.s .z .z))))
noncomputable def f128 (call : CallF) (i0 : Value) (base1 : Value) (W0 : World) : Option (Value × World) :=
  ((bin .eql base1 (Value.int IntKind.i64 10)).bind fun v11 =>
  (asB v11).bind fun c11 =>
  if c11 then
    (bin .leq (Value.int IntKind.i64 0) i0).bind fun v13 =>
    (asB v13).bind fun b14 =>
    (if b14 = true then (bin .lss i0 (Value.int IntKind.i64 100)).bind fun v16 =>
      some (v16, W0)
     else some ((Value.bool false), W0)).bind fun r17 =>
    (asB r17.1).bind fun c17 =>
    if c17 then
      (call 134 #[i0] r17.2).bind fun r19 =>
      some (Res.ret [r19.1] r19.2)
    else
    (erun Tryz.prog (Instr.alloc 213 true (.tuple #[])) r17.2).bind fun r5 =>
    (prun Tryz.prog (convert 2 159 i0)).bind fun v21 =>
    (bin .lss i0 (Value.int IntKind.i64 0)).bind fun v23 =>
    (asB v23).bind fun c23 =>
    (if c23 then
      (prun Tryz.prog (Op.unary .neg v21)).bind fun v25 =>
      some (Res.norm [i0, r5.1, v25] r5.2)
     else
      some (Res.norm [i0, r5.1, v21] r5.2)).bind fun (r : Res) => r.cont fun vs W1 =>
    let i0_1 := nth vs 0
    let a5 := nth vs 1
    let u6 := nth vs 2
    (call 135 #[u6] W1).bind fun r27 =>
    (bin .add (Value.int IntKind.i64 1) r27.1).bind fun v29 =>
    (prun Tryz.prog (Instr.sliceAt 213 a5 (some (Value.int IntKind.i64 1)) (some v29) none)).bind fun v30 =>
    (call 136 #[v30, u6] r27.2).bind fun r32 =>
    (bin .lss i0_1 (Value.int IntKind.i64 0)).bind fun v34 =>
    (asB v34).bind fun c34 =>
    if c34 then
      (prun Tryz.prog (Instr.indexAt 213 a5 (Value.int IntKind.i64 0))).bind fun v35 =>
      (erun Tryz.prog (Instr.storeAt 5 v35 (Value.int IntKind.u8 45)) r32.2).bind fun r =>
      (bin .add (Value.int IntKind.i64 1) r27.1).bind fun v37 =>
      (prun Tryz.prog (Instr.sliceAt 213 a5 none (some v37) none)).bind fun v38 =>
      (rrun Tryz.prog (convert 160 9 v38) r.2).bind fun v39 =>
      some (Res.ret [v39] r.2)
    else
    (bin .add (Value.int IntKind.i64 1) r27.1).bind fun v41 =>
    (prun Tryz.prog (Instr.sliceAt 213 a5 (some (Value.int IntKind.i64 1)) (some v41) none)).bind fun v42 =>
    (rrun Tryz.prog (convert 160 9 v42) r32.2).bind fun v43 =>
    some (Res.ret [v43] r32.2)
  else
  (prun Tryz.prog (convert 2 159 i0)).bind fun v46 =>
  (bin .lss i0 (Value.int IntKind.i64 0)).bind fun v49 =>
  (call 137 #[(Value.slice none 0 0), v46, base1, v49, (Value.bool false)] W0).bind fun r50 =>
  (prun Tryz.prog (Instr.extract r50.1 0)).bind fun v51 =>
  (prun Tryz.prog (Instr.extract r50.1 1)).bind fun v52 =>
  some (Res.ret [v52] r50.2)).bind Res.done
theorem f128.eq (call dfr : CallF) (i0 : Value) (base1 : Value) (W0 : World) : aFun Tryz.prog call dfr Tryz.f128 f128.ann (ofArgs #[i0, base1]) W0 = f128 call i0 base1 W0 := by kernel_rfl

/-- internal/strconv.ParseUint -/
def f129.ann : Ann := (.s .z (.s (.s .z (.c (.s .z .z) .z)) (.s .z (.s .z (.s (.b [0, 1, 2, 8, 9] (.s .z (.c .z (.s .z (.c (.s .z (.s .z (.c (.b [0, 1, 2, 8, 9] (.s .z (.c (.s .z .z) (.s .z (.c (.s .z .z) (.s .z (.c (.s .z .z) (.s .z .z)))))))) .z))) (.s .z .z)))))) (.s (.s .z (.j [0, 1, 2, 8, 9] .z (.s .z (.c (.s .z .z) .z)))) (.s .z (.s (.s .z (.b [0, 1, 2, 8, 9, 10] (.s .z (.c .z (.s .z (.c .z .z)))))) (.s .z (.s .z (.s .z (.s (.s .z (.b [9, 12, 13] (.l [1, 8, 9, 10, 11, 12, 13, 99, 100, 101] (.s .z (.s (.c .z .z) (.s (.b [1, 8, 9, 10, 11, 12, 13, 99, 100, 101] (.s .z (.s .z (.s (.b [1, 8, 9, 10, 11, 12, 13, 16, 99, 100, 101] (.s .z (.c (.s .z .z) (.s .z (.c .z (.s .z (.c .z (.s .z .z)))))))) (.s (.s .z (.c (.s .z .z) .z)) (.s (.s .z (.c (.s .z .z) .z)) (.s .z (.s .z (.s (.s .z (.c (.s .z .z) .z)) .z))))))))) .z)))))) (.s (.s .z (.c (.s .z .z) .z)) (.s .z .z))))))))))))))
noncomputable def f129.l0 (call : CallF) (vs_4 : List Value) (W5 : World) : Option Res :=
  let o1_5 := nth vs_4 0
  let v8_4 := nth vs_4 1
  let v9_4 := nth vs_4 2
  let v10_1 := nth vs_4 3
  let v11 := nth vs_4 4
  let v12 := nth vs_4 5
  let v13 := nth vs_4 6
  let v99 := nth vs_4 7
  let v100_1 := nth vs_4 8
  let v101 := nth vs_4 9
  (bin .lss v101 v100_1).bind fun v102 =>
  (asB v102).bind fun c102 =>
  if c102 then
    ((prun Tryz.prog (Instr.indexAt 160 v99 v101)).bind fun v103 =>
    (rrun Tryz.prog (Instr.loadAt 5 v103) W5).bind fun v104 =>
    ((bin .eql v104 (Value.int IntKind.u8 95)).bind fun v108 =>
    (asB v108).bind fun b109 =>
    (if b109 = true then some (v8_4, W5)
     else some ((Value.bool false), W5)).bind fun r111 =>
    (asB r111.1).bind fun c106 =>
    if c106 then
      some (Res.exit 4 [o1_5, v8_4, v9_4, v10_1, v11, (Value.bool true), v13, v99, v100_1, v101] r111.2)
    else
    (bin .leq (Value.int IntKind.u8 48) v104).bind fun v114 =>
    (asB v114).bind fun b115 =>
    (if b115 = true then (bin .leq v104 (Value.int IntKind.u8 57)).bind fun v117 =>
      some (v117, r111.2)
     else some ((Value.bool false), r111.2)).bind fun r118 =>
    (asB r118.1).bind fun c112 =>
    if c112 then
      (bin .sub v104 (Value.int IntKind.u8 48)).bind fun v120 =>
      some (Res.norm [o1_5, v8_4, v9_4, v10_1, v11, v12, v13, v120, v99, v100_1, v101] r118.2)
    else
    (call 138 #[v104] r118.2).bind fun r123 =>
    (bin .leq (Value.int IntKind.u8 97) r123.1).bind fun v124 =>
    (asB v124).bind fun b125 =>
    (if b125 = true then (call 138 #[v104] r123.2).bind fun r127 =>
      (bin .leq r127.1 (Value.int IntKind.u8 122)).bind fun v128 =>
      some (v128, r127.2)
     else some ((Value.bool false), r123.2)).bind fun r129 =>
    (asB r129.1).bind fun c121 =>
    if c121 then
      (call 138 #[v104] r129.2).bind fun r131 =>
      (bin .sub r131.1 (Value.int IntKind.u8 97)).bind fun v132 =>
      (bin .add v132 (Value.int IntKind.u8 10)).bind fun v133 =>
      some (Res.norm [o1_5, v8_4, v9_4, v10_1, v11, v12, v13, v133, v99, v100_1, v101] r131.2)
    else
    (prun Tryz.prog (Instr.makeInterface 198 (Value.int IntKind.i64 2))).bind fun v105 =>
    some (Res.ret [(Value.int IntKind.u64 0), v105] r129.2)).bind fun (r : Res) => (r.unblock 5).cont fun vs_5 W6 =>
    let o1_6 := nth vs_5 0
    let v8_5 := nth vs_5 1
    let v9_5 := nth vs_5 2
    let v10_2 := nth vs_5 3
    let v11_1 := nth vs_5 4
    let v12_1 := nth vs_5 5
    let v13_1 := nth vs_5 6
    let v16 := nth vs_5 7
    let v99_1 := nth vs_5 8
    let v100_2 := nth vs_5 9
    let v101_1 := nth vs_5 10
    (prun Tryz.prog (convert 3 5 o1_6)).bind fun v136 =>
    (bin .geq v16 v136).bind fun v137 =>
    (asB v137).bind fun c137 =>
    if c137 then
      (prun Tryz.prog (Instr.makeInterface 198 (Value.int IntKind.i64 2))).bind fun v138 =>
      some (Res.ret [(Value.int IntKind.u64 0), v138] W6)
    else
    (bin .geq v13_1 v10_2).bind fun v141 =>
    (asB v141).bind fun c141 =>
    if c141 then
      (prun Tryz.prog (Instr.makeInterface 198 (Value.int IntKind.i64 1))).bind fun v143 =>
      some (Res.ret [v11_1, v143] W6)
    else
    (prun Tryz.prog (convert 3 159 o1_6)).bind fun v146 =>
    (bin .mul v13_1 v146).bind fun v147 =>
    (prun Tryz.prog (convert 5 159 v16)).bind fun v150 =>
    (bin .add v147 v150).bind fun v151 =>
    (bin .lss v151 v147).bind fun v154 =>
    (asB v154).bind fun b155 =>
    (if b155 = false then (bin .gtr v151 v11_1).bind fun v158 =>
      some (v158, W6)
     else some ((Value.bool true), W6)).bind fun r159 =>
    (asB r159.1).bind fun c159 =>
    if c159 then
      (prun Tryz.prog (Instr.makeInterface 198 (Value.int IntKind.i64 1))).bind fun v161 =>
      some (Res.ret [v11_1, v161] r159.2)
    else
    some (Res.norm [o1_6, v8_5, v9_5, v10_2, v11_1, v12_1, v151, v99_1, v100_2, v101_1] r159.2)).bind fun (r : Res) => (r.unblock 4).cont fun vs_6 W7 =>
    let o1_7 := nth vs_6 0
    let v8_6 := nth vs_6 1
    let v9_6 := nth vs_6 2
    let v10_3 := nth vs_6 3
    let v11_2 := nth vs_6 4
    let v12_2 := nth vs_6 5
    let v13_2 := nth vs_6 6
    let v99_2 := nth vs_6 7
    let v100_3 := nth vs_6 8
    let v101_2 := nth vs_6 9
    (bin .add v101_2 (Value.int IntKind.i64 1)).bind fun v163 =>
    some (Res.norm [o1_7, v8_6, v9_6, v10_3, v11_2, v12_2, v13_2, v99_2, v100_3, v163] W7)
  else
  some (Res.exit 3 [v9_4, v12, v13] W5)
noncomputable def f129 (call : CallF) (t0 : Value) (o1 : Value) (A2 : Value) (W0 : World) : Option (Value × World) :=
  ((prun Tryz.prog (do eqGuard .eql 9 (Operand.tmp 18) (Operand.const (Value.string { data := #[] })) t0 (Value.string { data := #[] }); binOp .eql 9 t0 (Value.string { data := #[] }))).bind fun v19 =>
  (asB v19).bind fun c19 =>
  if c19 then
    (prun Tryz.prog (Instr.makeInterface 198 (Value.int IntKind.i64 2))).bind fun v20 =>
    some (Res.ret [(Value.int IntKind.u64 0), v20] W0)
  else
  (bin .eql o1 (Value.int IntKind.i64 0)).bind fun v22 =>
  ((bin .leq (Value.int IntKind.i64 2) o1).bind fun v27 =>
  (asB v27).bind fun b28 =>
  (if b28 = true then (bin .leq o1 (Value.int IntKind.i64 36)).bind fun v30 =>
    some (v30, W0)
   else some ((Value.bool false), W0)).bind fun r31 =>
  (asB r31.1).bind fun c25 =>
  if c25 then
    some (Res.norm [t0, o1, A2, v22, t0] r31.2)
  else
  (bin .eql o1 (Value.int IntKind.i64 0)).bind fun v34 =>
  (asB v34).bind fun c32 =>
  if c32 then
    (prun Tryz.prog (Instr.index 9 t0 (Value.int IntKind.i64 0))).bind fun v36 =>
    (bin .eql v36 (Value.int IntKind.u8 48)).bind fun v37 =>
    (asB v37).bind fun c37 =>
    if c37 then
      ((prun Tryz.prog (Builtin.len_ #[9] 3 #[t0])).bind fun v42 =>
      (bin .geq v42 (Value.int IntKind.i64 3)).bind fun v43 =>
      (asB v43).bind fun b44 =>
      (if b44 = true then (prun Tryz.prog (Instr.index 9 t0 (Value.int IntKind.i64 1))).bind fun v46 =>
        (call 138 #[v46] r31.2).bind fun r47 =>
        (bin .eql r47.1 (Value.int IntKind.u8 98)).bind fun v48 =>
        some (v48, r47.2)
       else some ((Value.bool false), r31.2)).bind fun r49 =>
      (asB r49.1).bind fun c40 =>
      if c40 then
        (prun Tryz.prog (Instr.sliceAt 9 t0 (some (Value.int IntKind.i64 2)) none none)).bind fun v51 =>
        some (Res.norm [v51, (Value.int IntKind.i64 2), A2, v22, t0] r49.2)
      else
      (prun Tryz.prog (Builtin.len_ #[9] 3 #[t0])).bind fun v54 =>
      (bin .geq v54 (Value.int IntKind.i64 3)).bind fun v55 =>
      (asB v55).bind fun b56 =>
      (if b56 = true then (prun Tryz.prog (Instr.index 9 t0 (Value.int IntKind.i64 1))).bind fun v58 =>
        (call 138 #[v58] r49.2).bind fun r59 =>
        (bin .eql r59.1 (Value.int IntKind.u8 111)).bind fun v60 =>
        some (v60, r59.2)
       else some ((Value.bool false), r49.2)).bind fun r61 =>
      (asB r61.1).bind fun c52 =>
      if c52 then
        (prun Tryz.prog (Instr.sliceAt 9 t0 (some (Value.int IntKind.i64 2)) none none)).bind fun v63 =>
        some (Res.norm [v63, (Value.int IntKind.i64 8), A2, v22, t0] r61.2)
      else
      (prun Tryz.prog (Builtin.len_ #[9] 3 #[t0])).bind fun v66 =>
      (bin .geq v66 (Value.int IntKind.i64 3)).bind fun v67 =>
      (asB v67).bind fun b68 =>
      (if b68 = true then (prun Tryz.prog (Instr.index 9 t0 (Value.int IntKind.i64 1))).bind fun v70 =>
        (call 138 #[v70] r61.2).bind fun r71 =>
        (bin .eql r71.1 (Value.int IntKind.u8 120)).bind fun v72 =>
        some (v72, r71.2)
       else some ((Value.bool false), r61.2)).bind fun r73 =>
      (asB r73.1).bind fun c64 =>
      if c64 then
        (prun Tryz.prog (Instr.sliceAt 9 t0 (some (Value.int IntKind.i64 2)) none none)).bind fun v75 =>
        some (Res.norm [v75, (Value.int IntKind.i64 16), A2, v22, t0] r73.2)
      else
      (prun Tryz.prog (Instr.sliceAt 9 t0 (some (Value.int IntKind.i64 1)) none none)).bind fun v39 =>
      some (Res.norm [v39, (Value.int IntKind.i64 8), A2, v22, t0] r73.2)).bind fun (r : Res) => (r.unblock 1).cont fun vs W1 =>
      let t0_1 := nth vs 0
      let o1_1 := nth vs 1
      let A2_1 := nth vs 2
      let v8 := nth vs 3
      let v9 := nth vs 4
      some (Res.norm [t0_1, o1_1, A2_1, v8, v9] W1)
    else
    some (Res.norm [t0, (Value.int IntKind.i64 10), A2, v22, t0] r31.2)
  else
  (prun Tryz.prog (Instr.makeInterface 198 (Value.int IntKind.i64 3))).bind fun v24 =>
  some (Res.ret [(Value.int IntKind.u64 0), v24] r31.2)).bind fun (r : Res) => (r.unblock 0).cont fun vs_1 W2 =>
  let t0_2 := nth vs_1 0
  let o1_2 := nth vs_1 1
  let A2_2 := nth vs_1 2
  let v8_1 := nth vs_1 3
  let v9_1 := nth vs_1 4
  (bin .eql A2_2 (Value.int IntKind.i64 0)).bind fun v77 =>
  (asB v77).bind fun c77 =>
  (if c77 then
    some (Res.norm [t0_2, o1_2, (Value.int IntKind.i64 64), v8_1, v9_1] W2)
   else
    (bin .lss A2_2 (Value.int IntKind.i64 0)).bind fun v79 =>
    (asB v79).bind fun b80 =>
    (if b80 = false then (bin .gtr A2_2 (Value.int IntKind.i64 64)).bind fun v82 =>
      some (v82, W2)
     else some ((Value.bool true), W2)).bind fun r83 =>
    (asB r83.1).bind fun c83 =>
    if c83 then
      (prun Tryz.prog (Instr.makeInterface 198 (Value.int IntKind.i64 4))).bind fun v84 =>
      some (Res.ret [(Value.int IntKind.u64 0), v84] r83.2)
    else
    some (Res.norm [t0_2, o1_2, A2_2, v8_1, v9_1] r83.2)).bind fun (r : Res) => r.cont fun vs_2 W3 =>
  let t0_3 := nth vs_2 0
  let o1_3 := nth vs_2 1
  let A2_3 := nth vs_2 2
  let v8_2 := nth vs_2 3
  let v9_2 := nth vs_2 4
  ((bin .eql o1_3 (Value.int IntKind.i64 10)).bind fun v91 =>
  (asB v91).bind fun c90 =>
  if c90 then
    some (Res.norm [t0_3, o1_3, A2_3, v8_2, v9_2, (Value.int IntKind.u64 1844674407370955162)] W3)
  else
  (bin .eql o1_3 (Value.int IntKind.i64 16)).bind fun v93 =>
  (asB v93).bind fun c92 =>
  if c92 then
    some (Res.norm [t0_3, o1_3, A2_3, v8_2, v9_2, (Value.int IntKind.u64 1152921504606846976)] W3)
  else
  (prun Tryz.prog (convert 3 159 o1_3)).bind fun v87 =>
  (bin .quo (Value.int IntKind.u64 18446744073709551615) v87).bind fun v88 =>
  (bin .add v88 (Value.int IntKind.u64 1)).bind fun v89 =>
  some (Res.norm [t0_3, o1_3, A2_3, v8_2, v9_2, v89] W3)).bind fun (r : Res) => (r.unblock 2).cont fun vs_3 W4 =>
  let t0_4 := nth vs_3 0
  let o1_4 := nth vs_3 1
  let A2_4 := nth vs_3 2
  let v8_3 := nth vs_3 3
  let v9_3 := nth vs_3 4
  let v10 := nth vs_3 5
  (prun Tryz.prog (convert 3 154 A2_4)).bind fun v95 =>
  (prun Tryz.prog (do eqGuard .shl 159 (Operand.const (Value.int IntKind.u64 1)) (Operand.tmp 95) (Value.int IntKind.u64 1) v95; binOp .shl 159 (Value.int IntKind.u64 1) v95)).bind fun v96 =>
  (bin .sub v96 (Value.int IntKind.u64 1)).bind fun v97 =>
  (erun Tryz.prog (convert 9 160 t0_4) W4).bind fun r99 =>
  (prun Tryz.prog (Builtin.len_ #[160] 3 #[r99.1])).bind fun v100 =>
  (iter (f129.l0 call) [o1_4, v8_3, v9_3, v10, v97, (Value.bool false), (Value.int IntKind.u64 0), r99.1, v100, (Value.int IntKind.i64 0)] r99.2).bind fun (r : Res) => (r.unblock 3).cont fun vs_7 W8 =>
  let v9_7 := nth vs_7 0
  let v12_3 := nth vs_7 1
  let v13_3 := nth vs_7 2
  (asB v12_3).bind fun b165 =>
  (if b165 = true then (call 139 #[v9_7] W8).bind fun r167 =>
    (prun Tryz.prog (Op.unary .not r167.1)).bind fun v168 =>
    some (v168, r167.2)
   else some ((Value.bool false), W8)).bind fun r169 =>
  (asB r169.1).bind fun c169 =>
  if c169 then
    (prun Tryz.prog (Instr.makeInterface 198 (Value.int IntKind.i64 2))).bind fun v170 =>
    some (Res.ret [(Value.int IntKind.u64 0), v170] r169.2)
  else
  some (Res.ret [v13_3, Value.nilIface] r169.2)).bind Res.done
theorem f129.eq (call dfr : CallF) (t0 : Value) (o1 : Value) (A2 : Value) (W0 : World) : aFun Tryz.prog call dfr Tryz.f129 f129.ann (ofArgs #[t0, o1, A2]) W0 = f129 call t0 o1 A2 W0 := by kernel_rfl

/-- (dailies/timecode.rate).form -/
def f132.ann : Ann := (.s .z (.s .z (.s (.s .z (.b [1, 5] (.l [1, 2, 5, 9] (.s .z (.s (.c .z .z) (.b [1, 2, 5, 9] (.s .z (.s (.b [1, 2, 5, 9] (.s .z (.c (.s .z .z) (.s .z (.c (.s .z (.c (.s .z .z) .z)) (.s .z (.c (.s .z (.c (.s .z .z) .z)) (.s .z (.c (.s .z .z) .z))))))))) .z)))))))) (.s (.s .z (.c (.s .z .z) .z)) (.s .z .z)))))
noncomputable def f132.l0 (call : CallF) (vs : List Value) (W1 : World) : Option Res :=
  let s1_1 := nth vs 0
  let x2 := nth vs 1
  let at5 := nth vs 2
  let v9 := nth vs 3
  (erun Tryz.prog (Instr.next v9 true 0) W1).bind fun r10 =>
  (prun Tryz.prog (Instr.extract r10.1 0)).bind fun v11 =>
  (asB v11).bind fun c11 =>
  if c11 then
    ((prun Tryz.prog (Instr.extract r10.1 1)).bind fun v12 =>
    (prun Tryz.prog (Instr.extract r10.1 2)).bind fun v13 =>
    ((bin .eql at5 (Value.int IntKind.i64 11)).bind fun v16 =>
    (asB v16).bind fun c14 =>
    if c14 then
      some (Res.ret [(Value.int IntKind.i64 11)] r10.2)
    else
    (bin .eql at5 (Value.int IntKind.i64 8)).bind fun v19 =>
    (asB v19).bind fun c17 =>
    if c17 then
      (rrun Tryz.prog (Instr.loadAt 145 x2) r10.2).bind fun v21 =>
      (call 113 #[v21] r10.2).bind fun r22 =>
      (prun Tryz.prog (convert 5 21 r22.1)).bind fun v23 =>
      (bin .neq v13 v23).bind fun v24 =>
      (asB v24).bind fun c24 =>
      if c24 then
        some (Res.ret [v12] r22.2)
      else
      some (Res.norm [s1_1, x2, at5, v9] r22.2)
    else
    (bin .rem at5 (Value.int IntKind.i64 3)).bind fun v28 =>
    (bin .eql v28 (Value.int IntKind.i64 2)).bind fun v29 =>
    (asB v29).bind fun c26 =>
    if c26 then
      (bin .neq v13 (Value.int IntKind.i32 58)).bind fun v31 =>
      (asB v31).bind fun c31 =>
      if c31 then
        some (Res.ret [v12] r10.2)
      else
      some (Res.norm [s1_1, x2, at5, v9] r10.2)
    else
    (bin .lss v13 (Value.int IntKind.i32 48)).bind fun v35 =>
    (asB v35).bind fun b36 =>
    (if b36 = false then (bin .gtr v13 (Value.int IntKind.i32 57)).bind fun v38 =>
      some (v38, r10.2)
     else some ((Value.bool true), r10.2)).bind fun r39 =>
    (asB r39.1).bind fun c33 =>
    if c33 then
      some (Res.ret [v12] r39.2)
    else
    some (Res.norm [s1_1, x2, at5, v9] r39.2)).bind fun (r : Res) => (r.unblock 2).cont fun vs_1 W2 =>
    let s1_2 := nth vs_1 0
    let x2_1 := nth vs_1 1
    let at5_1 := nth vs_1 2
    let v9_1 := nth vs_1 3
    (bin .add at5_1 (Value.int IntKind.i64 1)).bind fun v42 =>
    some (Res.norm [s1_2, x2_1, v42, v9_1] W2)).bind fun (r : Res) => (r.unblock 1).cont fun vs_2 W3 =>
    let s1_3 := nth vs_2 0
    let x2_2 := nth vs_2 1
    let at5_2 := nth vs_2 2
    let v9_2 := nth vs_2 3
    some (Res.norm [s1_3, x2_2, at5_2, v9_2] W3)
  else
  some (Res.exit 0 [s1_1, at5] r10.2)
noncomputable def f132 (call : CallF) (x0 : Value) (s1 : Value) (W0 : World) : Option (Value × World) :=
  ((erun Tryz.prog (Instr.box 145 x0) W0).bind fun r2 =>
  (erun Tryz.prog (Instr.range 9 s1) r2.2).bind fun r9 =>
  (iter (f132.l0 call) [s1, r2.1, (Value.int IntKind.i64 0), r9.1] r9.2).bind fun (r : Res) => (r.unblock 0).cont fun vs_3 W4 =>
  let s1_4 := nth vs_3 0
  let at5_3 := nth vs_3 1
  (bin .lss at5_3 (Value.int IntKind.i64 11)).bind fun v44 =>
  (asB v44).bind fun c44 =>
  if c44 then
    (prun Tryz.prog (Builtin.len_ #[9] 3 #[s1_4])).bind fun v46 =>
    some (Res.ret [v46] W4)
  else
  some (Res.ret [(Value.int IntKind.i64 (-1))] W4)).bind Res.done
theorem f132.eq (call dfr : CallF) (x0 : Value) (s1 : Value) (W0 : World) : aFun Tryz.prog call dfr Tryz.f132 f132.ann (ofArgs #[x0, s1]) W0 = f132 call x0 s1 W0 := by kernel_rfl

/-- (dailies/timecode.rate).read$1 -/
def f133.ann : Ann := (.s .z (.s .z .z))
noncomputable def f133 (call : CallF) (at0 : Value) (v1 : Value) (W0 : World) : Option (Value × World) :=
  ((rrun Tryz.prog (Instr.loadAt 9 v1) W0.drew).bind fun v4 =>
  (prun Tryz.prog (Instr.index 9 v4 at0)).bind fun v6 =>
  (bin .sub v6 (Value.int IntKind.u8 48)).bind fun v7 =>
  (prun Tryz.prog (convert 5 3 v7)).bind fun v8 =>
  (bin .mul (Value.int IntKind.i64 10) v8).bind fun v9 =>
  (rrun Tryz.prog (Instr.loadAt 9 v1) W0.drew).bind fun v10 =>
  (bin .add at0 (Value.int IntKind.i64 1)).bind fun v12 =>
  (prun Tryz.prog (Instr.index 9 v10 v12)).bind fun v13 =>
  (bin .sub v13 (Value.int IntKind.u8 48)).bind fun v14 =>
  (prun Tryz.prog (convert 5 3 v14)).bind fun v15 =>
  (bin .add v9 v15).bind fun v16 =>
  some (Res.ret [v16] W0.drew)).bind Res.done
theorem f133.eq (call dfr : CallF) (at0 : Value) (v1 : Value) (W0 : World) : aFun Tryz.prog call dfr Tryz.f133 f133.ann (ofArgs #[at0, v1]) W0 = f133 call at0 v1 W0 := by kernel_rfl

/-- internal/strconv.small -/
def f134.ann : Ann := (.s .z (.s (.s .z (.c (.s .z .z) .z)) (.s .z .z)))
noncomputable def f134 (call : CallF) (i0 : Value) (W0 : World) : Option (Value × World) :=
  ((bin .lss i0 (Value.int IntKind.i64 10)).bind fun v4 =>
  (asB v4).bind fun c4 =>
  if c4 then
    (bin .add i0 (Value.int IntKind.i64 1)).bind fun v7 =>
    (prun Tryz.prog (Instr.sliceAt 9 (Value.string { data := #[48, 49, 50, 51, 52, 53, 54, 55, 56, 57, 97, 98, 99, 100, 101, 102, 103, 104, 105, 106, 107, 108, 109, 110, 111, 112, 113, 114, 115, 116, 117, 118, 119, 120, 121, 122] }) (some i0) (some v7) none)).bind fun v8 =>
    some (Res.ret [v8] W0)
  else
  (bin .mul i0 (Value.int IntKind.i64 2)).bind fun v10 =>
  (bin .mul i0 (Value.int IntKind.i64 2)).bind fun v12 =>
  (bin .add v12 (Value.int IntKind.i64 2)).bind fun v13 =>
  (prun Tryz.prog (Instr.sliceAt 9 (Value.string { data := #[48, 48, 48, 49, 48, 50, 48, 51, 48, 52, 48, 53, 48, 54, 48, 55, 48, 56, 48, 57, 49, 48, 49, 49, 49, 50, 49, 51, 49, 52, 49, 53, 49, 54, 49, 55, 49, 56, 49, 57, 50, 48, 50, 49, 50, 50, 50, 51, 50, 52, 50, 53, 50, 54, 50, 55, 50, 56, 50, 57, 51, 48, 51, 49, 51, 50, 51, 51, 51, 52, 51, 53, 51, 54, 51, 55, 51, 56, 51, 57, 52, 48, 52, 49, 52, 50, 52, 51, 52, 52, 52, 53, 52, 54, 52, 55, 52, 56, 52, 57, 53, 48, 53, 49, 53, 50, 53, 51, 53, 52, 53, 53, 53, 54, 53, 55, 53, 56, 53, 57, 54, 48, 54, 49, 54, 50, 54, 51, 54, 52, 54, 53, 54, 54, 54, 55, 54, 56, 54, 57, 55, 48, 55, 49, 55, 50, 55, 51, 55, 52, 55, 53, 55, 54, 55, 55, 55, 56, 55, 57, 56, 48, 56, 49, 56, 50, 56, 51, 56, 52, 56, 53, 56, 54, 56, 55, 56, 56, 56, 57, 57, 48, 57, 49, 57, 50, 57, 51, 57, 52, 57, 53, 57, 54, 57, 55, 57, 56, 57, 57] }) (some v10) (some v13) none)).bind fun v14 =>
  some (Res.ret [v14] W0)).bind Res.done
theorem f134.eq (call dfr : CallF) (i0 : Value) (W0 : World) : aFun Tryz.prog call dfr Tryz.f134 f134.ann (ofArgs #[i0]) W0 = f134 call i0 W0 := by kernel_rfl

/-- internal/strconv.numDigits -/
def f135.ann : Ann := (.s .z (.s .z (.s .z .z)))
noncomputable def f135 (call : CallF) (d0 : Value) (W0 : World) : Option (Value × World) :=
  ((call 141 #[d0] W0).bind fun r5 =>
  (call 140 #[r5.1] r5.2).bind fun r6 =>
  (prun Tryz.prog (Instr.indexAt 224 (.pointer (some ⟨7, 0, none⟩)) r6.1)).bind fun v10 =>
  (rrun Tryz.prog (Instr.loadAt 159 v10) r6.2).bind fun v11 =>
  (bin .geq d0 v11).bind fun v12 =>
  (call 142 #[v12] r6.2).bind fun r13 =>
  (bin .add r6.1 r13.1).bind fun v14 =>
  some (Res.ret [v14] r13.2)).bind Res.done
theorem f135.eq (call dfr : CallF) (d0 : Value) (W0 : World) : aFun Tryz.prog call dfr Tryz.f135 f135.ann (ofArgs #[d0]) W0 = f135 call d0 W0 := by kernel_rfl

/-- internal/strconv.formatBase10 -/
def f136.ann : Ann := (.s .z (.s (.b [0, 1, 4] (.l [0, 1, 4] (.s (.s .z (.c .z .z)) (.b [0, 1, 4] (.s .z (.s .z (.s .z (.s .z (.s .z (.s .z (.s .z (.s .z (.s .z .z))))))))))))) (.s .z (.s (.s .z (.j [0, 4, 12] (.s .z (.s .z (.s .z (.s .z (.s .z .z))))) .z)) (.s (.s .z (.j [0, 4, 12] (.s .z (.s .z (.s .z .z))) .z)) (.s .z (.c .z .z)))))))
noncomputable def f136.l0 (call : CallF) (vs : List Value) (W1 : World) : Option Res :=
  let t0_1 := nth vs 0
  let o1_1 := nth vs 1
  let r4 := nth vs 2
  (bin .geq r4 (Value.int IntKind.i64 8)).bind fun v20 =>
  (asB v20).bind fun c20 =>
  if c20 then
    ((bin .rem o1_1 (Value.int IntKind.u64 100000000)).bind fun v22 =>
    (prun Tryz.prog (convert 159 190 v22)).bind fun v23 =>
    (bin .quo o1_1 (Value.int IntKind.u64 100000000)).bind fun v25 =>
    (bin .quo v23 (Value.int IntKind.u32 10000)).bind fun v27 =>
    (bin .rem v23 (Value.int IntKind.u32 10000)).bind fun v29 =>
    (bin .quo v29 (Value.int IntKind.u32 100)).bind fun v31 =>
    (bin .mul v31 (Value.int IntKind.u32 2)).bind fun v32 =>
    (bin .rem v29 (Value.int IntKind.u32 100)).bind fun v34 =>
    (bin .mul v34 (Value.int IntKind.u32 2)).bind fun v35 =>
    (bin .quo v27 (Value.int IntKind.u32 100)).bind fun v37 =>
    (bin .mul v37 (Value.int IntKind.u32 2)).bind fun v38 =>
    (bin .rem v27 (Value.int IntKind.u32 100)).bind fun v40 =>
    (bin .mul v40 (Value.int IntKind.u32 2)).bind fun v41 =>
    ((bin .sub r4 (Value.int IntKind.i64 1)).bind fun v44 =>
    some (v44, W1.drew)).bind fun r44 =>
    ((bin .sub r4 (Value.int IntKind.i64 2)).bind fun v47 =>
    some (v47, r44.2)).bind fun r47 =>
    ((bin .add v35 (Value.int IntKind.u32 1)).bind fun v49 =>
    some (v49, r47.2)).bind fun r49 =>
    ((prun Tryz.prog (Instr.index 9 (Value.string { data := #[48, 48, 48, 49, 48, 50, 48, 51, 48, 52, 48, 53, 48, 54, 48, 55, 48, 56, 48, 57, 49, 48, 49, 49, 49, 50, 49, 51, 49, 52, 49, 53, 49, 54, 49, 55, 49, 56, 49, 57, 50, 48, 50, 49, 50, 50, 50, 51, 50, 52, 50, 53, 50, 54, 50, 55, 50, 56, 50, 57, 51, 48, 51, 49, 51, 50, 51, 51, 51, 52, 51, 53, 51, 54, 51, 55, 51, 56, 51, 57, 52, 48, 52, 49, 52, 50, 52, 51, 52, 52, 52, 53, 52, 54, 52, 55, 52, 56, 52, 57, 53, 48, 53, 49, 53, 50, 53, 51, 53, 52, 53, 53, 53, 54, 53, 55, 53, 56, 53, 57, 54, 48, 54, 49, 54, 50, 54, 51, 54, 52, 54, 53, 54, 54, 54, 55, 54, 56, 54, 57, 55, 48, 55, 49, 55, 50, 55, 51, 55, 52, 55, 53, 55, 54, 55, 55, 55, 56, 55, 57, 56, 48, 56, 49, 56, 50, 56, 51, 56, 52, 56, 53, 56, 54, 56, 55, 56, 56, 56, 57, 57, 48, 57, 49, 57, 50, 57, 51, 57, 52, 57, 53, 57, 54, 57, 55, 57, 56, 57, 57] }) r49.1)).bind fun v50 =>
    some (v50, r49.2)).bind fun r50 =>
    ((prun Tryz.prog (Instr.index 9 (Value.string { data := #[48, 48, 48, 49, 48, 50, 48, 51, 48, 52, 48, 53, 48, 54, 48, 55, 48, 56, 48, 57, 49, 48, 49, 49, 49, 50, 49, 51, 49, 52, 49, 53, 49, 54, 49, 55, 49, 56, 49, 57, 50, 48, 50, 49, 50, 50, 50, 51, 50, 52, 50, 53, 50, 54, 50, 55, 50, 56, 50, 57, 51, 48, 51, 49, 51, 50, 51, 51, 51, 52, 51, 53, 51, 54, 51, 55, 51, 56, 51, 57, 52, 48, 52, 49, 52, 50, 52, 51, 52, 52, 52, 53, 52, 54, 52, 55, 52, 56, 52, 57, 53, 48, 53, 49, 53, 50, 53, 51, 53, 52, 53, 53, 53, 54, 53, 55, 53, 56, 53, 57, 54, 48, 54, 49, 54, 50, 54, 51, 54, 52, 54, 53, 54, 54, 54, 55, 54, 56, 54, 57, 55, 48, 55, 49, 55, 50, 55, 51, 55, 52, 55, 53, 55, 54, 55, 55, 55, 56, 55, 57, 56, 48, 56, 49, 56, 50, 56, 51, 56, 52, 56, 53, 56, 54, 56, 55, 56, 56, 56, 57, 57, 48, 57, 49, 57, 50, 57, 51, 57, 52, 57, 53, 57, 54, 57, 55, 57, 56, 57, 57] }) v35)).bind fun v52 =>
    some (v52, r50.2)).bind fun r52 =>
    ((prun Tryz.prog (Instr.indexAt 160 t0_1 r44.1)).bind fun v53 =>
    some (v53, r52.2)).bind fun r53 =>
    ((erun Tryz.prog (Instr.storeAt 5 r53.1 r50.1) r53.2).bind fun r_1 =>
    some (undef, r_1.2)).bind fun r =>
    ((prun Tryz.prog (Instr.indexAt 160 t0_1 r47.1)).bind fun v54 =>
    some (v54, r.2)).bind fun r54 =>
    ((erun Tryz.prog (Instr.storeAt 5 r54.1 r52.1) r54.2).bind fun r_3 =>
    some (undef, r_3.2)).bind fun r_2 =>
    chkThen (True)
    (((bin .sub r4 (Value.int IntKind.i64 3)).bind fun v57 =>
    some (v57, r_2.2.drew)).bind fun r57 =>
    ((bin .sub r4 (Value.int IntKind.i64 4)).bind fun v60 =>
    some (v60, r57.2)).bind fun r60 =>
    ((bin .add v32 (Value.int IntKind.u32 1)).bind fun v62 =>
    some (v62, r60.2)).bind fun r62 =>
    ((prun Tryz.prog (Instr.index 9 (Value.string { data := #[48, 48, 48, 49, 48, 50, 48, 51, 48, 52, 48, 53, 48, 54, 48, 55, 48, 56, 48, 57, 49, 48, 49, 49, 49, 50, 49, 51, 49, 52, 49, 53, 49, 54, 49, 55, 49, 56, 49, 57, 50, 48, 50, 49, 50, 50, 50, 51, 50, 52, 50, 53, 50, 54, 50, 55, 50, 56, 50, 57, 51, 48, 51, 49, 51, 50, 51, 51, 51, 52, 51, 53, 51, 54, 51, 55, 51, 56, 51, 57, 52, 48, 52, 49, 52, 50, 52, 51, 52, 52, 52, 53, 52, 54, 52, 55, 52, 56, 52, 57, 53, 48, 53, 49, 53, 50, 53, 51, 53, 52, 53, 53, 53, 54, 53, 55, 53, 56, 53, 57, 54, 48, 54, 49, 54, 50, 54, 51, 54, 52, 54, 53, 54, 54, 54, 55, 54, 56, 54, 57, 55, 48, 55, 49, 55, 50, 55, 51, 55, 52, 55, 53, 55, 54, 55, 55, 55, 56, 55, 57, 56, 48, 56, 49, 56, 50, 56, 51, 56, 52, 56, 53, 56, 54, 56, 55, 56, 56, 56, 57, 57, 48, 57, 49, 57, 50, 57, 51, 57, 52, 57, 53, 57, 54, 57, 55, 57, 56, 57, 57] }) r62.1)).bind fun v63 =>
    some (v63, r62.2)).bind fun r63 =>
    ((prun Tryz.prog (Instr.index 9 (Value.string { data := #[48, 48, 48, 49, 48, 50, 48, 51, 48, 52, 48, 53, 48, 54, 48, 55, 48, 56, 48, 57, 49, 48, 49, 49, 49, 50, 49, 51, 49, 52, 49, 53, 49, 54, 49, 55, 49, 56, 49, 57, 50, 48, 50, 49, 50, 50, 50, 51, 50, 52, 50, 53, 50, 54, 50, 55, 50, 56, 50, 57, 51, 48, 51, 49, 51, 50, 51, 51, 51, 52, 51, 53, 51, 54, 51, 55, 51, 56, 51, 57, 52, 48, 52, 49, 52, 50, 52, 51, 52, 52, 52, 53, 52, 54, 52, 55, 52, 56, 52, 57, 53, 48, 53, 49, 53, 50, 53, 51, 53, 52, 53, 53, 53, 54, 53, 55, 53, 56, 53, 57, 54, 48, 54, 49, 54, 50, 54, 51, 54, 52, 54, 53, 54, 54, 54, 55, 54, 56, 54, 57, 55, 48, 55, 49, 55, 50, 55, 51, 55, 52, 55, 53, 55, 54, 55, 55, 55, 56, 55, 57, 56, 48, 56, 49, 56, 50, 56, 51, 56, 52, 56, 53, 56, 54, 56, 55, 56, 56, 56, 57, 57, 48, 57, 49, 57, 50, 57, 51, 57, 52, 57, 53, 57, 54, 57, 55, 57, 56, 57, 57] }) v32)).bind fun v65 =>
    some (v65, r63.2)).bind fun r65 =>
    ((prun Tryz.prog (Instr.indexAt 160 t0_1 r57.1)).bind fun v66 =>
    some (v66, r65.2)).bind fun r66 =>
    ((erun Tryz.prog (Instr.storeAt 5 r66.1 r63.1) r66.2).bind fun r_5 =>
    some (undef, r_5.2)).bind fun r_4 =>
    ((prun Tryz.prog (Instr.indexAt 160 t0_1 r60.1)).bind fun v67 =>
    some (v67, r_4.2)).bind fun r67 =>
    ((erun Tryz.prog (Instr.storeAt 5 r67.1 r65.1) r67.2).bind fun r_7 =>
    some (undef, r_7.2)).bind fun r_6 =>
    chkThen (True)
    (((bin .sub r4 (Value.int IntKind.i64 5)).bind fun v70 =>
    some (v70, r_6.2.drew)).bind fun r70 =>
    ((bin .sub r4 (Value.int IntKind.i64 6)).bind fun v73 =>
    some (v73, r70.2)).bind fun r73 =>
    ((bin .add v41 (Value.int IntKind.u32 1)).bind fun v75 =>
    some (v75, r73.2)).bind fun r75 =>
    ((prun Tryz.prog (Instr.index 9 (Value.string { data := #[48, 48, 48, 49, 48, 50, 48, 51, 48, 52, 48, 53, 48, 54, 48, 55, 48, 56, 48, 57, 49, 48, 49, 49, 49, 50, 49, 51, 49, 52, 49, 53, 49, 54, 49, 55, 49, 56, 49, 57, 50, 48, 50, 49, 50, 50, 50, 51, 50, 52, 50, 53, 50, 54, 50, 55, 50, 56, 50, 57, 51, 48, 51, 49, 51, 50, 51, 51, 51, 52, 51, 53, 51, 54, 51, 55, 51, 56, 51, 57, 52, 48, 52, 49, 52, 50, 52, 51, 52, 52, 52, 53, 52, 54, 52, 55, 52, 56, 52, 57, 53, 48, 53, 49, 53, 50, 53, 51, 53, 52, 53, 53, 53, 54, 53, 55, 53, 56, 53, 57, 54, 48, 54, 49, 54, 50, 54, 51, 54, 52, 54, 53, 54, 54, 54, 55, 54, 56, 54, 57, 55, 48, 55, 49, 55, 50, 55, 51, 55, 52, 55, 53, 55, 54, 55, 55, 55, 56, 55, 57, 56, 48, 56, 49, 56, 50, 56, 51, 56, 52, 56, 53, 56, 54, 56, 55, 56, 56, 56, 57, 57, 48, 57, 49, 57, 50, 57, 51, 57, 52, 57, 53, 57, 54, 57, 55, 57, 56, 57, 57] }) r75.1)).bind fun v76 =>
    some (v76, r75.2)).bind fun r76 =>
    ((prun Tryz.prog (Instr.index 9 (Value.string { data := #[48, 48, 48, 49, 48, 50, 48, 51, 48, 52, 48, 53, 48, 54, 48, 55, 48, 56, 48, 57, 49, 48, 49, 49, 49, 50, 49, 51, 49, 52, 49, 53, 49, 54, 49, 55, 49, 56, 49, 57, 50, 48, 50, 49, 50, 50, 50, 51, 50, 52, 50, 53, 50, 54, 50, 55, 50, 56, 50, 57, 51, 48, 51, 49, 51, 50, 51, 51, 51, 52, 51, 53, 51, 54, 51, 55, 51, 56, 51, 57, 52, 48, 52, 49, 52, 50, 52, 51, 52, 52, 52, 53, 52, 54, 52, 55, 52, 56, 52, 57, 53, 48, 53, 49, 53, 50, 53, 51, 53, 52, 53, 53, 53, 54, 53, 55, 53, 56, 53, 57, 54, 48, 54, 49, 54, 50, 54, 51, 54, 52, 54, 53, 54, 54, 54, 55, 54, 56, 54, 57, 55, 48, 55, 49, 55, 50, 55, 51, 55, 52, 55, 53, 55, 54, 55, 55, 55, 56, 55, 57, 56, 48, 56, 49, 56, 50, 56, 51, 56, 52, 56, 53, 56, 54, 56, 55, 56, 56, 56, 57, 57, 48, 57, 49, 57, 50, 57, 51, 57, 52, 57, 53, 57, 54, 57, 55, 57, 56, 57, 57] }) v41)).bind fun v78 =>
    some (v78, r76.2)).bind fun r78 =>
    ((prun Tryz.prog (Instr.indexAt 160 t0_1 r70.1)).bind fun v79 =>
    some (v79, r78.2)).bind fun r79 =>
    ((erun Tryz.prog (Instr.storeAt 5 r79.1 r76.1) r79.2).bind fun r_9 =>
    some (undef, r_9.2)).bind fun r_8 =>
    ((prun Tryz.prog (Instr.indexAt 160 t0_1 r73.1)).bind fun v80 =>
    some (v80, r_8.2)).bind fun r80 =>
    ((erun Tryz.prog (Instr.storeAt 5 r80.1 r78.1) r80.2).bind fun r_11 =>
    some (undef, r_11.2)).bind fun r_10 =>
    chkThen (True)
    (((bin .sub r4 (Value.int IntKind.i64 7)).bind fun v83 =>
    some (v83, r_10.2.drew)).bind fun r83 =>
    ((bin .sub r4 (Value.int IntKind.i64 8)).bind fun v86 =>
    some (v86, r83.2)).bind fun r86 =>
    ((bin .add v38 (Value.int IntKind.u32 1)).bind fun v88 =>
    some (v88, r86.2)).bind fun r88 =>
    ((prun Tryz.prog (Instr.index 9 (Value.string { data := #[48, 48, 48, 49, 48, 50, 48, 51, 48, 52, 48, 53, 48, 54, 48, 55, 48, 56, 48, 57, 49, 48, 49, 49, 49, 50, 49, 51, 49, 52, 49, 53, 49, 54, 49, 55, 49, 56, 49, 57, 50, 48, 50, 49, 50, 50, 50, 51, 50, 52, 50, 53, 50, 54, 50, 55, 50, 56, 50, 57, 51, 48, 51, 49, 51, 50, 51, 51, 51, 52, 51, 53, 51, 54, 51, 55, 51, 56, 51, 57, 52, 48, 52, 49, 52, 50, 52, 51, 52, 52, 52, 53, 52, 54, 52, 55, 52, 56, 52, 57, 53, 48, 53, 49, 53, 50, 53, 51, 53, 52, 53, 53, 53, 54, 53, 55, 53, 56, 53, 57, 54, 48, 54, 49, 54, 50, 54, 51, 54, 52, 54, 53, 54, 54, 54, 55, 54, 56, 54, 57, 55, 48, 55, 49, 55, 50, 55, 51, 55, 52, 55, 53, 55, 54, 55, 55, 55, 56, 55, 57, 56, 48, 56, 49, 56, 50, 56, 51, 56, 52, 56, 53, 56, 54, 56, 55, 56, 56, 56, 57, 57, 48, 57, 49, 57, 50, 57, 51, 57, 52, 57, 53, 57, 54, 57, 55, 57, 56, 57, 57] }) r88.1)).bind fun v89 =>
    some (v89, r88.2)).bind fun r89 =>
    ((prun Tryz.prog (Instr.index 9 (Value.string { data := #[48, 48, 48, 49, 48, 50, 48, 51, 48, 52, 48, 53, 48, 54, 48, 55, 48, 56, 48, 57, 49, 48, 49, 49, 49, 50, 49, 51, 49, 52, 49, 53, 49, 54, 49, 55, 49, 56, 49, 57, 50, 48, 50, 49, 50, 50, 50, 51, 50, 52, 50, 53, 50, 54, 50, 55, 50, 56, 50, 57, 51, 48, 51, 49, 51, 50, 51, 51, 51, 52, 51, 53, 51, 54, 51, 55, 51, 56, 51, 57, 52, 48, 52, 49, 52, 50, 52, 51, 52, 52, 52, 53, 52, 54, 52, 55, 52, 56, 52, 57, 53, 48, 53, 49, 53, 50, 53, 51, 53, 52, 53, 53, 53, 54, 53, 55, 53, 56, 53, 57, 54, 48, 54, 49, 54, 50, 54, 51, 54, 52, 54, 53, 54, 54, 54, 55, 54, 56, 54, 57, 55, 48, 55, 49, 55, 50, 55, 51, 55, 52, 55, 53, 55, 54, 55, 55, 55, 56, 55, 57, 56, 48, 56, 49, 56, 50, 56, 51, 56, 52, 56, 53, 56, 54, 56, 55, 56, 56, 56, 57, 57, 48, 57, 49, 57, 50, 57, 51, 57, 52, 57, 53, 57, 54, 57, 55, 57, 56, 57, 57] }) v38)).bind fun v91 =>
    some (v91, r89.2)).bind fun r91 =>
    ((prun Tryz.prog (Instr.indexAt 160 t0_1 r83.1)).bind fun v92 =>
    some (v92, r91.2)).bind fun r92 =>
    ((erun Tryz.prog (Instr.storeAt 5 r92.1 r89.1) r92.2).bind fun r_13 =>
    some (undef, r_13.2)).bind fun r_12 =>
    ((prun Tryz.prog (Instr.indexAt 160 t0_1 r86.1)).bind fun v93 =>
    some (v93, r_12.2)).bind fun r93 =>
    ((erun Tryz.prog (Instr.storeAt 5 r93.1 r91.1) r93.2).bind fun r_15 =>
    some (undef, r_15.2)).bind fun r_14 =>
    chkThen (True)
    ((bin .sub r4 (Value.int IntKind.i64 8)).bind fun v95 =>
    some (Res.norm [t0_1, v25, v95] r_14.2)))))).bind fun (r : Res) => (r.unblock 1).cont fun vs_1 W2 =>
    let t0_2 := nth vs_1 0
    let o1_2 := nth vs_1 1
    let r4_1 := nth vs_1 2
    some (Res.norm [t0_2, o1_2, r4_1] W2)
  else
  some (Res.exit 0 [t0_1, o1_1, r4] W1)
noncomputable def f136 (call : CallF) (t0 : Value) (o1 : Value) (W0 : World) : Option (Value × World) :=
  ((prun Tryz.prog (Builtin.len_ #[160] 3 #[t0])).bind fun v18 =>
  (iter (f136.l0 call) [t0, o1, v18] W0).bind fun (r : Res) => (r.unblock 0).cont fun vs_2 W3 =>
  let t0_3 := nth vs_2 0
  let o1_3 := nth vs_2 1
  let r4_2 := nth vs_2 2
  (prun Tryz.prog (convert 159 190 o1_3)).bind fun v97 =>
  (bin .geq r4_2 (Value.int IntKind.i64 4)).bind fun v99 =>
  (asB v99).bind fun c99 =>
  (if c99 then
    (bin .rem v97 (Value.int IntKind.u32 10000)).bind fun v101 =>
    (bin .quo v97 (Value.int IntKind.u32 10000)).bind fun v103 =>
    (bin .quo v101 (Value.int IntKind.u32 100)).bind fun v105 =>
    (bin .mul v105 (Value.int IntKind.u32 2)).bind fun v106 =>
    (bin .rem v101 (Value.int IntKind.u32 100)).bind fun v108 =>
    (bin .mul v108 (Value.int IntKind.u32 2)).bind fun v109 =>
    ((bin .sub r4_2 (Value.int IntKind.i64 1)).bind fun v112 =>
    some (v112, W3.drew)).bind fun r112 =>
    ((bin .sub r4_2 (Value.int IntKind.i64 2)).bind fun v115 =>
    some (v115, r112.2)).bind fun r115 =>
    ((bin .add v109 (Value.int IntKind.u32 1)).bind fun v117 =>
    some (v117, r115.2)).bind fun r117 =>
    ((prun Tryz.prog (Instr.index 9 (Value.string { data := #[48, 48, 48, 49, 48, 50, 48, 51, 48, 52, 48, 53, 48, 54, 48, 55, 48, 56, 48, 57, 49, 48, 49, 49, 49, 50, 49, 51, 49, 52, 49, 53, 49, 54, 49, 55, 49, 56, 49, 57, 50, 48, 50, 49, 50, 50, 50, 51, 50, 52, 50, 53, 50, 54, 50, 55, 50, 56, 50, 57, 51, 48, 51, 49, 51, 50, 51, 51, 51, 52, 51, 53, 51, 54, 51, 55, 51, 56, 51, 57, 52, 48, 52, 49, 52, 50, 52, 51, 52, 52, 52, 53, 52, 54, 52, 55, 52, 56, 52, 57, 53, 48, 53, 49, 53, 50, 53, 51, 53, 52, 53, 53, 53, 54, 53, 55, 53, 56, 53, 57, 54, 48, 54, 49, 54, 50, 54, 51, 54, 52, 54, 53, 54, 54, 54, 55, 54, 56, 54, 57, 55, 48, 55, 49, 55, 50, 55, 51, 55, 52, 55, 53, 55, 54, 55, 55, 55, 56, 55, 57, 56, 48, 56, 49, 56, 50, 56, 51, 56, 52, 56, 53, 56, 54, 56, 55, 56, 56, 56, 57, 57, 48, 57, 49, 57, 50, 57, 51, 57, 52, 57, 53, 57, 54, 57, 55, 57, 56, 57, 57] }) r117.1)).bind fun v118 =>
    some (v118, r117.2)).bind fun r118 =>
    ((prun Tryz.prog (Instr.index 9 (Value.string { data := #[48, 48, 48, 49, 48, 50, 48, 51, 48, 52, 48, 53, 48, 54, 48, 55, 48, 56, 48, 57, 49, 48, 49, 49, 49, 50, 49, 51, 49, 52, 49, 53, 49, 54, 49, 55, 49, 56, 49, 57, 50, 48, 50, 49, 50, 50, 50, 51, 50, 52, 50, 53, 50, 54, 50, 55, 50, 56, 50, 57, 51, 48, 51, 49, 51, 50, 51, 51, 51, 52, 51, 53, 51, 54, 51, 55, 51, 56, 51, 57, 52, 48, 52, 49, 52, 50, 52, 51, 52, 52, 52, 53, 52, 54, 52, 55, 52, 56, 52, 57, 53, 48, 53, 49, 53, 50, 53, 51, 53, 52, 53, 53, 53, 54, 53, 55, 53, 56, 53, 57, 54, 48, 54, 49, 54, 50, 54, 51, 54, 52, 54, 53, 54, 54, 54, 55, 54, 56, 54, 57, 55, 48, 55, 49, 55, 50, 55, 51, 55, 52, 55, 53, 55, 54, 55, 55, 55, 56, 55, 57, 56, 48, 56, 49, 56, 50, 56, 51, 56, 52, 56, 53, 56, 54, 56, 55, 56, 56, 56, 57, 57, 48, 57, 49, 57, 50, 57, 51, 57, 52, 57, 53, 57, 54, 57, 55, 57, 56, 57, 57] }) v109)).bind fun v120 =>
    some (v120, r118.2)).bind fun r120 =>
    ((prun Tryz.prog (Instr.indexAt 160 t0_3 r112.1)).bind fun v121 =>
    some (v121, r120.2)).bind fun r121 =>
    ((erun Tryz.prog (Instr.storeAt 5 r121.1 r118.1) r121.2).bind fun r_17 =>
    some (undef, r_17.2)).bind fun r_16 =>
    ((prun Tryz.prog (Instr.indexAt 160 t0_3 r115.1)).bind fun v122 =>
    some (v122, r_16.2)).bind fun r122 =>
    ((erun Tryz.prog (Instr.storeAt 5 r122.1 r120.1) r122.2).bind fun r_19 =>
    some (undef, r_19.2)).bind fun r_18 =>
    chkThen (True)
    (((bin .sub r4_2 (Value.int IntKind.i64 3)).bind fun v125 =>
    some (v125, r_18.2.drew)).bind fun r125 =>
    ((bin .sub r4_2 (Value.int IntKind.i64 4)).bind fun v128 =>
    some (v128, r125.2)).bind fun r128 =>
    ((bin .add v106 (Value.int IntKind.u32 1)).bind fun v130 =>
    some (v130, r128.2)).bind fun r130 =>
    ((prun Tryz.prog (Instr.index 9 (Value.string { data := #[48, 48, 48, 49, 48, 50, 48, 51, 48, 52, 48, 53, 48, 54, 48, 55, 48, 56, 48, 57, 49, 48, 49, 49, 49, 50, 49, 51, 49, 52, 49, 53, 49, 54, 49, 55, 49, 56, 49, 57, 50, 48, 50, 49, 50, 50, 50, 51, 50, 52, 50, 53, 50, 54, 50, 55, 50, 56, 50, 57, 51, 48, 51, 49, 51, 50, 51, 51, 51, 52, 51, 53, 51, 54, 51, 55, 51, 56, 51, 57, 52, 48, 52, 49, 52, 50, 52, 51, 52, 52, 52, 53, 52, 54, 52, 55, 52, 56, 52, 57, 53, 48, 53, 49, 53, 50, 53, 51, 53, 52, 53, 53, 53, 54, 53, 55, 53, 56, 53, 57, 54, 48, 54, 49, 54, 50, 54, 51, 54, 52, 54, 53, 54, 54, 54, 55, 54, 56, 54, 57, 55, 48, 55, 49, 55, 50, 55, 51, 55, 52, 55, 53, 55, 54, 55, 55, 55, 56, 55, 57, 56, 48, 56, 49, 56, 50, 56, 51, 56, 52, 56, 53, 56, 54, 56, 55, 56, 56, 56, 57, 57, 48, 57, 49, 57, 50, 57, 51, 57, 52, 57, 53, 57, 54, 57, 55, 57, 56, 57, 57] }) r130.1)).bind fun v131 =>
    some (v131, r130.2)).bind fun r131 =>
    ((prun Tryz.prog (Instr.index 9 (Value.string { data := #[48, 48, 48, 49, 48, 50, 48, 51, 48, 52, 48, 53, 48, 54, 48, 55, 48, 56, 48, 57, 49, 48, 49, 49, 49, 50, 49, 51, 49, 52, 49, 53, 49, 54, 49, 55, 49, 56, 49, 57, 50, 48, 50, 49, 50, 50, 50, 51, 50, 52, 50, 53, 50, 54, 50, 55, 50, 56, 50, 57, 51, 48, 51, 49, 51, 50, 51, 51, 51, 52, 51, 53, 51, 54, 51, 55, 51, 56, 51, 57, 52, 48, 52, 49, 52, 50, 52, 51, 52, 52, 52, 53, 52, 54, 52, 55, 52, 56, 52, 57, 53, 48, 53, 49, 53, 50, 53, 51, 53, 52, 53, 53, 53, 54, 53, 55, 53, 56, 53, 57, 54, 48, 54, 49, 54, 50, 54, 51, 54, 52, 54, 53, 54, 54, 54, 55, 54, 56, 54, 57, 55, 48, 55, 49, 55, 50, 55, 51, 55, 52, 55, 53, 55, 54, 55, 55, 55, 56, 55, 57, 56, 48, 56, 49, 56, 50, 56, 51, 56, 52, 56, 53, 56, 54, 56, 55, 56, 56, 56, 57, 57, 48, 57, 49, 57, 50, 57, 51, 57, 52, 57, 53, 57, 54, 57, 55, 57, 56, 57, 57] }) v106)).bind fun v133 =>
    some (v133, r131.2)).bind fun r133 =>
    ((prun Tryz.prog (Instr.indexAt 160 t0_3 r125.1)).bind fun v134 =>
    some (v134, r133.2)).bind fun r134 =>
    ((erun Tryz.prog (Instr.storeAt 5 r134.1 r131.1) r134.2).bind fun r_21 =>
    some (undef, r_21.2)).bind fun r_20 =>
    ((prun Tryz.prog (Instr.indexAt 160 t0_3 r128.1)).bind fun v135 =>
    some (v135, r_20.2)).bind fun r135 =>
    ((erun Tryz.prog (Instr.storeAt 5 r135.1 r133.1) r135.2).bind fun r_23 =>
    some (undef, r_23.2)).bind fun r_22 =>
    chkThen (True)
    ((bin .sub r4_2 (Value.int IntKind.i64 4)).bind fun v137 =>
    some (Res.norm [t0_3, v137, v103] r_22.2)))
   else
    some (Res.norm [t0_3, r4_2, v97] W3)).bind fun (r : Res) => r.cont fun vs_3 W4 =>
  let t0_4 := nth vs_3 0
  let r4_3 := nth vs_3 1
  let v12 := nth vs_3 2
  (bin .geq r4_3 (Value.int IntKind.i64 2)).bind fun v139 =>
  (asB v139).bind fun c139 =>
  (if c139 then
    (bin .rem v12 (Value.int IntKind.u32 100)).bind fun v141 =>
    (bin .mul v141 (Value.int IntKind.u32 2)).bind fun v142 =>
    (bin .quo v12 (Value.int IntKind.u32 100)).bind fun v144 =>
    ((bin .sub r4_3 (Value.int IntKind.i64 1)).bind fun v147 =>
    some (v147, W4.drew)).bind fun r147 =>
    ((bin .sub r4_3 (Value.int IntKind.i64 2)).bind fun v150 =>
    some (v150, r147.2)).bind fun r150 =>
    ((bin .add v142 (Value.int IntKind.u32 1)).bind fun v152 =>
    some (v152, r150.2)).bind fun r152 =>
    ((prun Tryz.prog (Instr.index 9 (Value.string { data := #[48, 48, 48, 49, 48, 50, 48, 51, 48, 52, 48, 53, 48, 54, 48, 55, 48, 56, 48, 57, 49, 48, 49, 49, 49, 50, 49, 51, 49, 52, 49, 53, 49, 54, 49, 55, 49, 56, 49, 57, 50, 48, 50, 49, 50, 50, 50, 51, 50, 52, 50, 53, 50, 54, 50, 55, 50, 56, 50, 57, 51, 48, 51, 49, 51, 50, 51, 51, 51, 52, 51, 53, 51, 54, 51, 55, 51, 56, 51, 57, 52, 48, 52, 49, 52, 50, 52, 51, 52, 52, 52, 53, 52, 54, 52, 55, 52, 56, 52, 57, 53, 48, 53, 49, 53, 50, 53, 51, 53, 52, 53, 53, 53, 54, 53, 55, 53, 56, 53, 57, 54, 48, 54, 49, 54, 50, 54, 51, 54, 52, 54, 53, 54, 54, 54, 55, 54, 56, 54, 57, 55, 48, 55, 49, 55, 50, 55, 51, 55, 52, 55, 53, 55, 54, 55, 55, 55, 56, 55, 57, 56, 48, 56, 49, 56, 50, 56, 51, 56, 52, 56, 53, 56, 54, 56, 55, 56, 56, 56, 57, 57, 48, 57, 49, 57, 50, 57, 51, 57, 52, 57, 53, 57, 54, 57, 55, 57, 56, 57, 57] }) r152.1)).bind fun v153 =>
    some (v153, r152.2)).bind fun r153 =>
    ((prun Tryz.prog (Instr.index 9 (Value.string { data := #[48, 48, 48, 49, 48, 50, 48, 51, 48, 52, 48, 53, 48, 54, 48, 55, 48, 56, 48, 57, 49, 48, 49, 49, 49, 50, 49, 51, 49, 52, 49, 53, 49, 54, 49, 55, 49, 56, 49, 57, 50, 48, 50, 49, 50, 50, 50, 51, 50, 52, 50, 53, 50, 54, 50, 55, 50, 56, 50, 57, 51, 48, 51, 49, 51, 50, 51, 51, 51, 52, 51, 53, 51, 54, 51, 55, 51, 56, 51, 57, 52, 48, 52, 49, 52, 50, 52, 51, 52, 52, 52, 53, 52, 54, 52, 55, 52, 56, 52, 57, 53, 48, 53, 49, 53, 50, 53, 51, 53, 52, 53, 53, 53, 54, 53, 55, 53, 56, 53, 57, 54, 48, 54, 49, 54, 50, 54, 51, 54, 52, 54, 53, 54, 54, 54, 55, 54, 56, 54, 57, 55, 48, 55, 49, 55, 50, 55, 51, 55, 52, 55, 53, 55, 54, 55, 55, 55, 56, 55, 57, 56, 48, 56, 49, 56, 50, 56, 51, 56, 52, 56, 53, 56, 54, 56, 55, 56, 56, 56, 57, 57, 48, 57, 49, 57, 50, 57, 51, 57, 52, 57, 53, 57, 54, 57, 55, 57, 56, 57, 57] }) v142)).bind fun v155 =>
    some (v155, r153.2)).bind fun r155 =>
    ((prun Tryz.prog (Instr.indexAt 160 t0_4 r147.1)).bind fun v156 =>
    some (v156, r155.2)).bind fun r156 =>
    ((erun Tryz.prog (Instr.storeAt 5 r156.1 r153.1) r156.2).bind fun r_25 =>
    some (undef, r_25.2)).bind fun r_24 =>
    ((prun Tryz.prog (Instr.indexAt 160 t0_4 r150.1)).bind fun v157 =>
    some (v157, r_24.2)).bind fun r157 =>
    ((erun Tryz.prog (Instr.storeAt 5 r157.1 r155.1) r157.2).bind fun r_27 =>
    some (undef, r_27.2)).bind fun r_26 =>
    chkThen (True)
    ((bin .sub r4_3 (Value.int IntKind.i64 2)).bind fun v159 =>
    some (Res.norm [t0_4, v159, v144] r_26.2))
   else
    some (Res.norm [t0_4, r4_3, v12] W4)).bind fun (r : Res) => r.cont fun vs_4 W5 =>
  let t0_5 := nth vs_4 0
  let r4_4 := nth vs_4 1
  let v12_1 := nth vs_4 2
  (bin .gtr r4_4 (Value.int IntKind.i64 0)).bind fun v161 =>
  (asB v161).bind fun c161 =>
  if c161 then
    (bin .add (Value.int IntKind.u32 48) v12_1).bind fun v164 =>
    (prun Tryz.prog (convert 190 5 v164)).bind fun v165 =>
    (prun Tryz.prog (Instr.indexAt 160 t0_5 (Value.int IntKind.i64 0))).bind fun v166 =>
    (erun Tryz.prog (Instr.storeAt 5 v166 v165) W5).bind fun r_28 =>
    some (Res.norm [] r_28.2)
  else
  some (Res.norm [] W5)).bind Res.done
theorem f136.eq (call dfr : CallF) (t0 : Value) (o1 : Value) (W0 : World) : aFun Tryz.prog call dfr Tryz.f136 f136.ann (ofArgs #[t0, o1]) W0 = f136 call t0 o1 W0 := by kernel_rfl

/-- (dailies/api.Errno).Error -/
def f164.ann : Ann := (.s .z (.s .z .z))
noncomputable def f164 (call : CallF) (e0 : Value) (W0 : World) : Option (Value × World) :=
  ((call 91 #[e0] W0).bind fun r4 =>
  (prun Tryz.prog (do eqGuard .add 9 (Operand.const (Value.string { data := #[100, 97, 105, 108, 105, 101, 115, 58, 32, 101, 114, 114, 111, 114, 32] })) (Operand.tmp 4) (Value.string { data := #[100, 97, 105, 108, 105, 101, 115, 58, 32, 101, 114, 114, 111, 114, 32] }) r4.1; binOp .add 9 (Value.string { data := #[100, 97, 105, 108, 105, 101, 115, 58, 32, 101, 114, 114, 111, 114, 32] }) r4.1)).bind fun v5 =>
  some (Res.ret [v5] r4.2)).bind Res.done
theorem f164.eq (call dfr : CallF) (e0 : Value) (W0 : World) : aFun Tryz.prog call dfr Tryz.f164 f164.ann (ofArgs #[e0]) W0 = f164 call e0 W0 := by kernel_rfl

/-- (*dailies/api.Fault).Error -/
def f165.ann : Ann := (.s .z (.s .z .z))
noncomputable def f165 (call : CallF) (f0 : Value) (W0 : World) : Option (Value × World) :=
  (((nilV Tryz.prog f0).bind fun v4 =>
  some (v4, W0.drew)).bind fun r4 =>
  ((prun Tryz.prog (Instr.fieldAt 83 r4.1 1)).bind fun v5 =>
  some (v5, r4.2)).bind fun r5 =>
  ((rrun Tryz.prog (Instr.loadAt 35 r5.1) r5.2).bind fun v6 =>
  some (v6, r5.2)).bind fun r6 =>
  ((call 164 #[r6.1] r6.2).bind fun r7_1 =>
  some (r7_1.1, r7_1.2)).bind fun r7 =>
  ((prun Tryz.prog (do eqGuard .add 9 (Operand.tmp 7) (Operand.const (Value.string { data := #[32, 97, 116, 32] })) r7.1 (Value.string { data := #[32, 97, 116, 32] }); binOp .add 9 r7.1 (Value.string { data := #[32, 97, 116, 32] }))).bind fun v8 =>
  some (v8, r7.2)).bind fun r8 =>
  ((nilV Tryz.prog f0).bind fun v10 =>
  some (v10, r8.2)).bind fun r10 =>
  ((prun Tryz.prog (Instr.fieldAt 83 r10.1 0)).bind fun v11 =>
  some (v11, r10.2)).bind fun r11 =>
  ((rrun Tryz.prog (Instr.loadAt 3 r11.1) r11.2).bind fun v12 =>
  some (v12, r11.2)).bind fun r12 =>
  ((call 91 #[r12.1] r12.2).bind fun r13_1 =>
  some (r13_1.1, r13_1.2)).bind fun r13 =>
  ((prun Tryz.prog (do eqGuard .add 9 (Operand.tmp 8) (Operand.tmp 13) r8.1 r13.1; binOp .add 9 r8.1 r13.1)).bind fun v14 =>
  some (v14, r13.2)).bind fun r14 =>
  chkThen ((((rrun Tryz.prog (Instr.loadAt 3 r11.1) r6.2).bind fun v12_1 => some v12_1) = some r12.1 ∧ ((rrun Tryz.prog (Instr.loadAt 3 r11.1) r7.2).bind fun v12_2 => some v12_2) = some r12.1) ∧ True)
  (some (Res.ret [r14.1] r14.2))).bind Res.done
theorem f165.eq (call dfr : CallF) (f0 : Value) (W0 : World) : aFun Tryz.prog call dfr Tryz.f165 f165.ann (ofArgs #[f0]) W0 = f165 call f0 W0 := by kernel_rfl

/-- (*dailies/api.Fault).Unwrap -/
def f166.ann : Ann := (.s .z (.s .z .z))
noncomputable def f166 (call : CallF) (f0 : Value) (W0 : World) : Option (Value × World) :=
  ((nilV Tryz.prog f0).bind fun v4 =>
  (prun Tryz.prog (Instr.fieldAt 83 v4 1)).bind fun v5 =>
  (rrun Tryz.prog (Instr.loadAt 35 v5) W0).bind fun v6 =>
  (prun Tryz.prog (Instr.makeInterface 35 v6)).bind fun v7 =>
  some (Res.ret [v7] W0)).bind Res.done
theorem f166.eq (call dfr : CallF) (f0 : Value) (W0 : World) : aFun Tryz.prog call dfr Tryz.f166 f166.ann (ofArgs #[f0]) W0 = f166 call f0 W0 := by kernel_rfl

/-- (*dailies/cuts.EventError).Error -/
def f167.ann : Ann := (.s .z (.s .z .z))
noncomputable def f167 (call : CallF) (e0 : Value) (W0 : World) : Option (Value × World) :=
  (((nilV Tryz.prog e0).bind fun v4 =>
  some (v4, W0.drew)).bind fun r4 =>
  ((prun Tryz.prog (Instr.fieldAt 101 r4.1 0)).bind fun v5 =>
  some (v5, r4.2)).bind fun r5 =>
  ((rrun Tryz.prog (Instr.loadAt 3 r5.1) r5.2).bind fun v6 =>
  some (v6, r5.2)).bind fun r6 =>
  ((call 91 #[r6.1] r6.2).bind fun r7_1 =>
  some (r7_1.1, r7_1.2)).bind fun r7 =>
  ((prun Tryz.prog (do eqGuard .add 9 (Operand.const (Value.string { data := #[100, 97, 105, 108, 105, 101, 115, 58, 32, 101, 118, 101, 110, 116, 32] })) (Operand.tmp 7) (Value.string { data := #[100, 97, 105, 108, 105, 101, 115, 58, 32, 101, 118, 101, 110, 116, 32] }) r7.1; binOp .add 9 (Value.string { data := #[100, 97, 105, 108, 105, 101, 115, 58, 32, 101, 118, 101, 110, 116, 32] }) r7.1)).bind fun v8 =>
  some (v8, r7.2)).bind fun r8 =>
  ((prun Tryz.prog (do eqGuard .add 9 (Operand.tmp 8) (Operand.const (Value.string { data := #[58, 32] })) r8.1 (Value.string { data := #[58, 32] }); binOp .add 9 r8.1 (Value.string { data := #[58, 32] }))).bind fun v9 =>
  some (v9, r8.2)).bind fun r9 =>
  ((nilV Tryz.prog e0).bind fun v11 =>
  some (v11, r9.2)).bind fun r11 =>
  ((prun Tryz.prog (Instr.fieldAt 101 r11.1 1)).bind fun v12 =>
  some (v12, r11.2)).bind fun r12 =>
  ((rrun Tryz.prog (Instr.loadAt 35 r12.1) r12.2).bind fun v13 =>
  some (v13, r12.2)).bind fun r13 =>
  ((call 164 #[r13.1] r13.2).bind fun r14_1 =>
  some (r14_1.1, r14_1.2)).bind fun r14 =>
  ((prun Tryz.prog (do eqGuard .add 9 (Operand.tmp 9) (Operand.tmp 14) r9.1 r14.1; binOp .add 9 r9.1 r14.1)).bind fun v15 =>
  some (v15, r14.2)).bind fun r15 =>
  chkThen ((((rrun Tryz.prog (Instr.loadAt 35 r12.1) r6.2).bind fun v13_1 => some v13_1) = some r13.1 ∧ ((rrun Tryz.prog (Instr.loadAt 35 r12.1) r7.2).bind fun v13_2 => some v13_2) = some r13.1) ∧ True)
  (some (Res.ret [r15.1] r15.2))).bind Res.done
theorem f167.eq (call dfr : CallF) (e0 : Value) (W0 : World) : aFun Tryz.prog call dfr Tryz.f167 f167.ann (ofArgs #[e0]) W0 = f167 call e0 W0 := by kernel_rfl
end Go.Sh.YtkghbcadnbojgaaGreatDoor
